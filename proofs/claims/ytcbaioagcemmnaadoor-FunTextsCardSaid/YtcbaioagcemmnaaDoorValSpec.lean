/- What val and the document make of values: plain law, no program in sight. -/
import Derived.Test.YtcbaioagcemmnaaDoorValBad
import Derived.Test.YtcbaioagcemmnaaDoorValText
import Derived.Test.YtcbaioagcemmnaaDoorValCmp
namespace Go.Proofs.YtcbaioagcemmnaaDoor
open Go.RowKit Go.Maps
abbrev noB : ByteArray := ⟨#[]⟩
/-- one that others make -/
def mayV (v : V3) : Prop := (v.1 = 0 ∧ v.2.1 = 0 ∧ v.2.2 = noB) ∨ (v.1 = 1 ∧ v.2.2 = noB) ∨ (v.1 = 2 ∧ v.2.1 = 0 ∧ v.2.2.size ≤ 200) ∨ (v.1 = 3 ∧ v.2.2 = noB ∧ (v.2.1 = 0 ∨ v.2.1 = 1)) ∨ (v.1 = 4 ∧ v.2.2 = noB ∧ 1 ≤ v.2.1 ∧ v.2.1 ≤ 6)
instance (v : V3) : Decidable (mayV v) := by unfold mayV; infer_instance
def likeV (x y : V3) : V3 := if x.1 = 0 then (y.1, 0, noB) else x
def vorder (x y : V3) : Int := vcmp (likeV x y) (likeV y x)
def vtest (kind c : Int) : Bool := if kind = 9 then c == 0 else if kind = 10 then c != 0 else if kind = 11 then decide (c < 0) else if kind = 12 then decide (c ≤ 0) else if kind = 13 then decide (0 < c) else decide (0 ≤ c)
def vnum (kind a b : Int) : V3 := if kind = 16 then resV (a + b) else if kind = 17 then resV (a - b) else if kind = 18 then resV (a * b) else if b = 0 then (4, 3, noB) else resV (a.tdiv b)
def isNum (x : V3) : Prop := x.1 = 0 ∨ x.1 = 1
instance (v : V3) : Decidable (isNum v) := by unfold isNum; infer_instance
def vtwo (kind : Int) (x y : V3) : V3 :=
  if x.1 = 4 then x else if y.1 = 4 then y else
  if kind = 15 then vstr (vtext x ++ vtext y) else
  if 16 ≤ kind ∧ kind ≤ 19 then (if isNum x ∧ isNum y then vnum kind x.2.1 y.2.1 else (4, 1, noB)) else
  if 9 ≤ kind ∧ kind ≤ 14 then (3, bN (vtest kind (vorder x y)), noB) else (4, 1, noB)
def vneg (x : V3) : V3 := if x.1 = 4 then x else if isNum x then resV (-x.2.1) else (4, 1, noB)
theorem mayV_res (z : Int) : mayV (resV z) := by
  unfold resV
  split
  · exact .inr (.inl ⟨rfl, rfl⟩)
  · exact .inr (.inr (.inr (.inr ⟨rfl, rfl, by decide, by decide⟩)))
theorem mayV_err (n : Int) (h : 1 ≤ n ∧ n ≤ 6) : mayV (4, n, noB) := .inr (.inr (.inr (.inr ⟨rfl, rfl, h⟩)))
theorem mayV_str (s : ByteArray) : mayV (vstr s) := by
  unfold vstr
  split
  · exact mayV_err 1 (by decide)
  · exact .inr (.inr (.inl ⟨rfl, rfl, by show s.size ≤ 200; omega⟩))
theorem mayV_num (kind a b : Int) : mayV (vnum kind a b) := by
  unfold vnum
  repeat' split
  all_goals first | exact mayV_res _ | exact mayV_err 3 (by decide)
theorem mayV_bool (b : Bool) : mayV (3, bN b, noB) := .inr (.inr (.inr (.inl ⟨rfl, rfl, by cases b <;> simp [bN]⟩)))
theorem mayV_two (kind : Int) (x y : V3) (hx : mayV x) (hy : mayV y) : mayV (vtwo kind x y) := by
  unfold vtwo
  repeat' split
  all_goals first | assumption | exact mayV_str _ | exact mayV_num _ _ _ | exact mayV_bool _ | exact mayV_err 1 (by decide)
theorem mayV_neg (x : V3) (hx : mayV x) : mayV (vneg x) := by
  unfold vneg
  repeat' split
  all_goals first | assumption | exact mayV_res _ | exact mayV_err 1 (by decide)
end Go.Proofs.YtcbaioagcemmnaaDoor
