/- Which rows are kept alike, and the keys of columns: no program in sight. -/
import Derived.Test.YthoccmgfpjfkoaaAlignRows
namespace Go.Proofs.Ythoccmgfpjfkoaa
open Go.RowKit

/-- is row i kept alike? -/
def alikeB (p q : List ByteArray) (m : List Int) (i : Nat) : Bool := decide (0 ≤ m.getD i (-1) ∧ m.getD i (-1) < (q.length : Int) ∧ p[i]? = q[(m.getD i (-1)).toNat]?)
/-- the rows kept alike, of the first j -/
def keptTo (p q : List ByteArray) (m : List Int) : Nat → List (Nat × Nat)
  | 0 => []
  | j + 1 => if alikeB p q m j then keptTo p q m j ++ [(j, (m.getD j (-1)).toNat)] else keptTo p q m j
theorem keptTo_yes {p q : List ByteArray} {m : List Int} {j : Nat} (h : alikeB p q m j = true) : keptTo p q m (j + 1) = keptTo p q m j ++ [(j, (m.getD j (-1)).toNat)] := by rw [keptTo, if_pos h]
theorem keptTo_no {p q : List ByteArray} {m : List Int} {j : Nat} (h : ¬ alikeB p q m j = true) : keptTo p q m (j + 1) = keptTo p q m j := by rw [keptTo, if_neg h]
theorem keptTo_len (p q : List ByteArray) (m : List Int) : ∀ j, (keptTo p q m j).length ≤ j
  | 0 => by simp [keptTo]
  | j + 1 => by
    have := keptTo_len p q m j
    unfold keptTo
    split <;> simp <;> omega
theorem keptTo_lt {p q : List ByteArray} {m : List Int} : ∀ {j : Nat}, ∀ x ∈ keptTo p q m j, x.1 < j ∧ x.2 < q.length
  | 0, x, h => by simp [keptTo] at h
  | j + 1, x, h => by
    by_cases hh : alikeB p q m j = true
    · rw [keptTo_yes hh] at h
      rcases List.mem_append.1 h with h | h
      · have := keptTo_lt (j := j) x h; omega
      · have hh := of_decide_eq_true hh
        rw [List.mem_singleton] at h
        subst h
        exact ⟨Nat.lt_succ_self _, by show (m.getD j (-1)).toNat < q.length; omega⟩
    · rw [keptTo_no hh] at h
      have := keptTo_lt (j := j) x h; omega

/-- a cell's text -/
def cellOf (rs : List SRow) (r c : Nat) : ByteArray := ((rs[r]?.map SRow.l).getD []).getD c ByteArray.empty
theorem cellOf_at {rs : List SRow} {r c : Nat} (h : r < rs.length) (hc : c < rs[r].l.length) : cellOf rs r c = rs[r].l[c] := by
  simp [cellOf, List.getElem?_eq_getElem h, List.getD, List.getElem?_eq_getElem hc]
theorem cellOf_size {rs : List SRow} (hm : Mild rs) (r c : Nat) : (cellOf rs r c).size ≤ 1048576 := by
  unfold cellOf
  cases h : rs[r]? with
  | none => simp
  | some x =>
    simp only [Option.map_some, Option.getD_some, List.getD]
    cases h2 : x.l[c]? with
    | none => simp
    | some s => exact (hm.2 x (List.mem_of_getElem? h)).2 s (List.mem_of_getElem? h2)
/-- the texts of a column in some rows -/
def colTexts (rs : List SRow) (is : List Nat) (c : Nat) : List ByteArray := is.map fun r => cellOf rs r c
/-- the keys of columns in some rows -/
def colKeys (rs : List SRow) (is : List Nat) (cols : Nat) : List ByteArray := (List.range cols).map fun c => allOf (colTexts rs is c)
theorem colTexts_len (rs : List SRow) (is : List Nat) (c : Nat) : (colTexts rs is c).length = is.length := by simp [colTexts]
theorem colTexts_snoc {rs : List SRow} {is : List Nat} {c k : Nat} (h : k < is.length) : colTexts rs (is.take (k + 1)) c = colTexts rs (is.take k) c ++ [cellOf rs is[k] c] := by
  unfold colTexts; rw [take_snoc h, List.map_append]; rfl
theorem colTexts_app (rs : List SRow) (is : List Nat) (c r : Nat) : colTexts rs (is ++ [r]) c = colTexts rs is c ++ [cellOf rs r c] := by simp [colTexts]
theorem colTexts_size {rs : List SRow} (hm : Mild rs) (is : List Nat) (c : Nat) : ∀ s ∈ colTexts rs is c, s.size ≤ 1048576 := by
  intro s hs
  obtain ⟨r, _, rfl⟩ := List.mem_map.1 hs
  exact cellOf_size hm r c
theorem colKeys_len (rs : List SRow) (is : List Nat) (cols : Nat) : (colKeys rs is cols).length = cols := by simp [colKeys]
theorem colKeys_snoc (rs : List SRow) (is : List Nat) (c : Nat) : colKeys rs is (c + 1) = colKeys rs is c ++ [allOf (colTexts rs is c)] := by simp [colKeys, List.range_succ]
/-- the map of columns -/
def colsOf (rs ts : List SRow) (m : List Int) (ca cb : Nat) : List Int :=
  rowsOf (colKeys rs ((keptTo (rowKeys rs) (rowKeys ts) m rs.length).map Prod.fst) ca) (colKeys ts ((keptTo (rowKeys rs) (rowKeys ts) m rs.length).map Prod.snd) cb)
/-- all rows have so many cells -/
def Wide (rs : List SRow) (cols : Nat) : Prop := ∀ r ∈ rs, r.l.length = cols
end Go.Proofs.Ythoccmgfpjfkoaa
