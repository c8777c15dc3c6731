/- Arguments opened, their texts bounded by the bulk of what is read: lists of texts, sheets. -/
import Derived.Test.YthoccmgfpjfkoaaRows
import Derived.Test.YthoccmgfpjfkoaaOpen
import Derived.Test.YthoccmgfpjfkoaaAlignKeys
import Derived.Deep.Slices
import Derived.Deep.Strs
namespace Go.Proofs.Ythoccmgfpjfkoaa
open Go.ChangeShapes Go.WideShapes Go.ChangeAt Go.RowKit

theorem bulk_part {H : Type} {d : DataW H} {l : List (DataW H)} (h : d ∈ l) : Rows.uptoBulk d ≤ Rows.uptoBulkAll l := by
  induction l with
  | nil => cases h
  | cons x r ih =>
    simp only [Rows.uptoBulkAll]
    cases List.mem_cons.1 h with
    | inl e => subst e; omega
    | inr e => have := ih e; omega
theorem bulk_elem {H : Type} {d : DataW H} {l r : List (DataW H)} (h : d ∈ l) : Rows.uptoBulk d ≤ Rows.uptoBulk (.slice l r) := by
  have := bulk_part h
  simp only [Rows.uptoBulk]; omega
theorem bulk_field {H : Type} {d : DataW H} {l : List (DataW H)} (h : d ∈ l) : Rows.uptoBulk d ≤ Rows.uptoBulk (.agg l) := by
  have := bulk_part h
  simp only [Rows.uptoBulk]; omega
theorem bulk_text {H : Type} (s : ByteArray) : Rows.uptoBulk (DataW.lit (H := H) (.string s.data.toList)) = s.size + 1 := by
  simp only [Rows.uptoBulk]
  rw [Array.length_toList]; rfl

section
variable {H : Type} {enc : TypeId × Value → H} {P : Program} {w : World} {base : Nat} {spare : Nat → Bool} {held : Bool} {r : Reach} {b0 : Nat} {t e q : TypeId} {v : Value} {d : DataW H} {p : List MemPlace}

theorem open_strs_bulk {fuel : Nat} {cs : List Value} {x : DataW H × List MemPlace} (ht : P.underlying t = some (.slice e)) (he : P.underlying e = some .string) (hc : P.cellsOf e = 1) (h : DataW.trod enc P w base spare held fuel t cs = some x) :
    ∃ A c ss, cs = [.slice A ss.length c] ∧ At1 vStr w A ss ∧ ∀ s ∈ ss, s.size ≤ Rows.uptoBulk x.1 := by
  rcases open_strings ht he hc h with ⟨hcs, _⟩ | ⟨a, l, c, zs, hcs, _, hl, hm, hz, hx, hcell, hwz⟩
  · exact ⟨none, 0, [], hcs, At1.nil _ _ _, by simp⟩
  · have hz' : l ≤ zs.length := by rw [hz]; split <;> omega
    refine ⟨some a, c, zs.take l, by rw [List.length_take, Nat.min_eq_left hz']; exact hcs, ⟨?_, fun _ => ⟨a, rfl, fun i y hy => ?_⟩⟩, fun s hs => ?_⟩
    · rw [List.length_take]; unfold maxLen at hm; omega
    · obtain ⟨h1, h2⟩ := getElem?_take_getD (y := ByteArray.empty) hy
      rw [hcell i h1, h2]
    · have hb := bulk_text (H := H) s
      have hi : DataW.lit (H := H) (.string s.data.toList) ∈ strs (zs.take l) := List.mem_map.2 ⟨s, hs, rfl⟩
      have hj := bulk_elem (r := strs (zs.drop l)) hi
      rw [hx]
      show s.size ≤ Rows.uptoBulk (.slice (strs (zs.take l)) (strs (zs.drop l)))
      omega
theorem open_strsB_at (ht : P.underlying t = some (.slice e)) (he : P.underlying e = some .string) (hc : P.cellsOf e = 1) (hval : Value.okWide P w r b0 t v) (h : DataW.Trod enc P w base spare held t v d p) :
    ∃ A c ss, v = .slice A ss.length c ∧ At1 vStr w A ss ∧ ∀ s ∈ ss, s.size ≤ Rows.uptoBulk d := by
  obtain ⟨a, len, cap, rfl⟩ := okWide_slice ht hval
  obtain ⟨fuel, hf⟩ := h
  obtain ⟨A, c, ss, hcs, h1, h2⟩ := open_strs_bulk ht he hc hf
  simp [Value.cells] at hcs
  obtain ⟨rfl, rfl, rfl⟩ := hcs
  exact ⟨_, _, _, rfl, h1, h2⟩

instance : Inhabited SRow := ⟨⟨none, [], 0⟩⟩
theorem open_rows_bulk {fuel : Nat} {cs : List Value} {x : DataW H × List MemPlace} (ht : P.underlying t = some (.slice e)) (he : P.underlying e = some (.slice q)) (hq : P.underlying q = some .string) (ce : P.cellsOf e = 1) (cq : P.cellsOf q = 1)
    (h : DataW.trod enc P w base spare held fuel t cs = some x) :
    ∃ A c rs, cs = [.slice A (List.length rs) c] ∧ Grid w A rs ∧ ∀ r ∈ rs, ∀ s ∈ SRow.l r, s.size ≤ Rows.uptoBulk x.1 := by
  rcases Go.Deep.open_slice1 ht ce h with ⟨hcs, _⟩ | ⟨a, len, cap, m, n, V, D, Pl, rfl, _, hl, hm, hmm, rfl, hx⟩
  · exact ⟨none, 0, [], hcs, ⟨At1.nil _ _ _, by simp⟩, by simp⟩
  · have hlm : len ≤ m := by rw [hmm]; split <;> omega
    have each : ∀ i, i < len → ∃ y : SRow, V i = vRow y ∧ At1 vStr w y.A y.l ∧ ∀ s ∈ y.l, s.size ≤ Rows.uptoBulk (D i) := by
      intro i hi
      obtain ⟨A, c, ss, h1, h2, h3⟩ := open_strs_bulk he hq cq (hx i (by omega)).2
      exact ⟨⟨A, ss, c⟩, (List.cons.inj h1).1, h2, h3⟩
    obtain ⟨y, hy⟩ := Go.Deep.choose_lt each
    refine ⟨some a, cap, (List.range len).map y, by simp, ⟨⟨by simp; unfold maxLen at hm; omega, fun _ => ⟨a, rfl, fun i z hz => ?_⟩⟩, fun z hz => ?_⟩, fun z hz s hs => ?_⟩
    · rw [List.getElem?_map] at hz
      by_cases hi : i < len
      · rw [List.getElem?_range hi] at hz
        injection hz with hz
        rw [← hz, ← (hy i hi).1]
        exact (hx i (by omega)).1
      · rw [List.getElem?_eq_none (by simpa using hi)] at hz
        cases hz
    · obtain ⟨i, hi, rfl⟩ := List.mem_map.1 hz
      exact (hy i (List.mem_range.1 hi)).2.1
    · obtain ⟨i, hi, rfl⟩ := List.mem_map.1 hz
      have h1 := (hy i (List.mem_range.1 hi)).2.2 s hs
      have h2 : D i ∈ (List.range len).map D := List.mem_map.2 ⟨i, hi, rfl⟩
      exact Nat.le_trans h1 (bulk_elem h2)
end

set_option maxRecDepth 100000 in
theorem open_sheet_at {H : Type} {enc : TypeId × Value → H} {w : World} {base : Nat} {spare : Nat → Bool} {held : Bool} {r : Reach} {b0 : Nat} {v : Value} {d : DataW H} {p : List MemPlace}
    (hval : Value.okWide Try.prog w r b0 24 v) (h : DataW.Trod enc Try.prog w base spare held 24 v d p) :
    ∃ name cols A rs c, v = .agg #[.string name, .int .i64 cols, .slice A (List.length rs) c] ∧ Grid w A rs ∧ ∀ r ∈ rs, ∀ s ∈ SRow.l r, s.size ≤ Rows.uptoBulk d := by
  obtain ⟨cs, rfl, hcs⟩ := okWide_struct Try.underlying24 hval
  obtain ⟨fuel, hf⟩ := h
  obtain ⟨y0, y1, y2, n, hx, hl, h0, h1, h2⟩ := Go.Deep.trod_struct3 Try.underlying24 hf
  have hc : Try.prog.cellsOf 24 = 3 := by kernel_rfl
  have hc9 : Try.prog.cellsOf 9 = 1 := by kernel_rfl
  have hc3 : Try.prog.cellsOf 3 = 1 := by kernel_rfl
  have hc22 : Try.prog.cellsOf 22 = 1 := by kernel_rfl
  rw [hc] at hcs
  obtain ⟨u0, u1, u2, rfl⟩ : ∃ u0 u1 u2, cs = #[u0, u1, u2] := by
    obtain ⟨l⟩ := cs
    match l, hcs with
    | [u0, u1, u2], _ => exact ⟨u0, u1, u2, rfl⟩
  simp only [hc9, hc3, hc22, Value.cells, List.drop_zero, List.drop_succ_cons, List.take_succ_cons, List.take_zero] at h0 h1 h2
  obtain ⟨name, e0, _, _⟩ := DataW.trod_string Try.underlying9 h0
  obtain ⟨cols, e1, _, _⟩ := DataW.trod_int Try.underlying3 h1
  obtain ⟨A, c, rs, e2, h3, h4⟩ := open_rows_bulk Try.underlying22 Try.underlying26 Try.underlying9 (by kernel_rfl) (by kernel_rfl) h2
  simp only [List.cons.injEq, and_true] at e0 e1 e2
  subst e0 e1 e2
  refine ⟨name, cols, A, rs, c, rfl, h3, fun r hr s hs => ?_⟩
  have hd : d = .agg [y0.1, y1.1, y2.1] := congrArg Prod.fst hx
  rw [hd]
  exact Nat.le_trans (h4 r hr s hs) (bulk_field (by simp))
end Go.Proofs.Ythoccmgfpjfkoaa
