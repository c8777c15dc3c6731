/- A map of texts: what it has, by a function. -/
import Derived.Test.YtfhgnolfhiffbaaHeld
import Derived.Maps.Views
namespace Go.Proofs.Ytfhgnolfhiffbaa
open Go.RowKit Go.Maps
/-- the map at b has what f says -/
structure MapF (w : World) (b n : Nat) (D : DataW Value) (f : ByteArray → Option Value) : Prop where
  map : IsMap D
  own : w.ownsMap Try.prog 9 HR b n D
  says : ∀ s : ByteArray, D.atKey (.string s.data.toList) .nil = (match f s with | some v => .held v | none => .nil)
theorem MapF.made (w : World) : MapF (w.alloc (.map #[] 0)) w.heap.size 0 (.map []) (fun _ => none) :=
  ⟨⟨_, rfl⟩, World.ownsMap_made w Try.prog 9 HR, fun _ => rfl⟩
def setF (f : ByteArray → Option Value) (s : ByteArray) (v : Value) : ByteArray → Option Value := fun x => if x = s then some v else f x
theorem data_inj {a b : ByteArray} (h : a.data.toList = b.data.toList) : a = b := by
  cases a; cases b
  congr 1
  exact Array.toList_inj.1 h
theorem MapF.put_says {D : DataW Value} {f : ByteArray → Option Value} (hD : IsMap D) (h : ∀ s : ByteArray, D.atKey (.string s.data.toList) .nil = (match f s with | some v => .held v | none => .nil)) (s : ByteArray) (v : Value) :
    ∀ x : ByteArray, (D.put (.string s.data.toList) (.held v)).atKey (.string x.data.toList) .nil = (match setF f s v x with | some v => .held v | none => .nil) := by
  intro x
  unfold setF
  by_cases e : x = s
  · subst e
    rw [if_pos rfl, atKey_put_same hD (by trivial)]
  · rw [if_neg e, atKey_put_other (fun h2 => e (data_inj (by injection h2 with h2))), h x]
/-- what 'm[s]' is, with ('v, ok') or without -/
def getV (f : ByteArray → Option Value) (s : ByteArray) (z : Value) (c : Bool) : Value := match f s with | some v => if c then .tuple #[v, .bool true] else v | none => if c then .tuple #[z, .bool false] else z
section
variable {w : World} {b n : Nat} {D : DataW Value} {f : ByteArray → Option Value}
theorem MapF.kept {w' : World} (h : MapF w b n D f) (hk : w'.heap[b]? = w.heap[b]?) : MapF w' b n D f := by
  refine ⟨h.map, ?_, h.says⟩
  obtain ⟨es, clock, hb, r⟩ := h.own
  exact ⟨es, clock, hk.trans hb, r⟩
theorem MapF.lt (h : MapF w b n D f) : b < w.heap.size := by
  obtain ⟨es, clock, hb, r⟩ := h.own
  exact (Array.getElem?_eq_some_iff.1 hb).1
theorem MapF.below {w' : World} (h : MapF w b n D f) (hb : Below w.heap.size w w') : MapF w' b n D f := h.kept (hb.block _ h.lt)
/-- 'm[s] = v' -/
theorem upon_putF {o : Oper} {a : Act} {K : Act → World → Prop} {Q : Exit → Act → World → Prop} {t e : TypeId} {s : ByteArray} {v : Value} {F : Unit → World → Result Next}
    (ht : Try.prog.underlying t = some (.map 9 e)) (h : MapF w b n D f) (hn : n < maxLen) (hs : s.size ≤ maxLen)
    (hK : ∀ w' D', MapF w' b (n + 1) D' (setF f s v) → w.grownBy w' (some b) → Oper.upon Try.prog o a K Q (F () w')) :
    Oper.upon Try.prog o a K Q (((Instr.mapUpdate t (.map (some b)) (.string s) v).run Try.prog w).andThen F) :=
  upon_insert_str Try.underlying9 ht h.own hn hs fun w' r1 r2 => hK w' _ ⟨by obtain ⟨E, rfl⟩ := h.map; exact ⟨_, rfl⟩, r1, MapF.put_says h.map h.says s v⟩ r2
theorem run_get {t e : TypeId} {s : ByteArray} {z : Value} (c : Bool) (ht : Try.prog.underlying t = some (.map 9 e)) (hz : (zeroValue e).run Try.prog w = .ok z w) (h : MapF w b n D f) (hs : s.size ≤ maxLen) :
    (Instr.lookup t (.map (some b)) (.string s) c).run Try.prog w = .ok (getV f s z c) w := by
  unfold getV
  have hkey := WideMaps.keyOf_string_mk Try.underlying9 hs
  obtain ⟨es, clock, hb, Fi, _, hD⟩ := h.own
  have hsay := h.says s
  rcases Maps.fit_look c (string_keyed Try.underlying9) ht hz hb Fi hkey with ⟨hrun, _, hat⟩ | ⟨e0, y, _, _, hrun, hRv, hat, _⟩
  · rw [hrun]
    rw [← hD] at hat
    rw [hat .nil] at hsay
    cases hf : f s with
    | none => rfl
    | some v => rw [hf] at hsay; cases hsay
  · have hy : y = (.held e0.val, []) := (Option.some.inj hRv).symm
    subst hy
    rw [hrun]
    rw [← hD] at hat
    rw [hat .nil] at hsay
    cases hf : f s with
    | none => rw [hf] at hsay; cases hsay
    | some v => rw [hf] at hsay; injection hsay with hsay; rw [hsay]
/-- 'm[s]' -/
theorem upon_getF {o : Oper} {a : Act} {K : Act → World → Prop} {Q : Exit → Act → World → Prop} {t e : TypeId} {s : ByteArray} {z : Value} {c : Bool} {F : Value → World → Result Next}
    (ht : Try.prog.underlying t = some (.map 9 e)) (hz : (zeroValue e).run Try.prog w = .ok z w) (h : MapF w b n D f) (hs : s.size ≤ maxLen)
    (hK : Oper.upon Try.prog o a K Q (F (getV f s z c) w)) :
    Oper.upon Try.prog o a K Q (((Instr.lookup t (.map (some b)) (.string s) c).run Try.prog w).andThen F) := by
  rw [run_get c ht hz h hs]
  exact hK
end
end Go.Proofs.Ytfhgnolfhiffbaa
