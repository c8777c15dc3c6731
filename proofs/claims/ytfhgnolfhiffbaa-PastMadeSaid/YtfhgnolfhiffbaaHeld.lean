/- A map literal whose elements are whatever values: each element reads as itself ('held'). -/
import Derived.Test.YtfhgnolfhiffbaaChecked
import Derived.Test.YtfhgnolfhiffbaaMem
import Derived.WalkKit
import Derived.BigQuiet
import Derived.Lib.Hide
import Derived.Maps.OwnOps
import Derived.Laws.EntriesVeiled
namespace Go.Proofs.Ytfhgnolfhiffbaa
open Go.RowKit Go.Maps
/-- how an element reads: as itself -/
def HR (v : Value) : Option (DataW Value × List MemPlace) := some (.held v, [])
/-- 'm[k] = v' of a map literal, at the operation -/
theorem wpList_insert_held {P : Program} (w : World) {ops : Array Oper} {rest : List Oper} {o : Oper} {a : Act} {Q : Exit → Act → World → Prop}
    (hg : o.guard = none) (m x v : Operand) (t : TypeId) (hop : o.op = Op.insert t m x v)
    (k e : TypeId) (K : Keyed P k) (ht : P.underlying t = some (.map k e)) (b n : Nat) (D : DataW Value)
    (hm : a.eval m = .map (some b)) (hown : w.ownsMap P k HR b n D) (hn : n < maxLen) (key val : Value) (kl : Lit) (hx : a.eval x = key) (hv : a.eval v = val) (hkey : keyOf P k key = some kl)
    (hK : ∀ w', w'.ownsMap P k HR b (n + 1) (D.put kl (.held val)) → w.grownBy w' (some b) → wpList P ops Q rest (a.put o.dst undef) w') :
    wpList P ops Q (o :: rest) a w := by
  refine wpList_plain hg fun K' hK' => ?_
  obtain ⟨w', hrun, r1, r2⟩ := hown.update K ht hn hkey (show HR val = some (.held val, []) from rfl)
  unfold Oper.wp
  simp [execOp, hop, hm, hx, hv, hrun, Result.andThen]
  exact hK' _ _ (hK w' r1 r2)
theorem wpList_insert_str {P : Program} {w : World} {ops : Array Oper} {rest : List Oper} {o : Oper} {a : Act} {Q : Exit → Act → World → Prop} {m x v : Operand} {t k e : TypeId} {b n : Nat} {D : DataW Value} {s : ByteArray} {val : Value}
    (hg : o.guard = none) (hop : o.op = Op.insert t m x v) (hk : P.underlying k = some .string) (ht : P.underlying t = some (.map k e)) (hm : a.eval m = .map (some b)) (hown : w.ownsMap P k HR b n D) (hn : n < maxLen)
    (hx : a.eval x = .string s) (hv : a.eval v = val) (hs : s.size ≤ maxLen)
    (hK : ∀ w', w'.ownsMap P k HR b (n + 1) (D.put (.string s.data.toList) (.held val)) → w.grownBy w' (some b) → wpList P ops Q rest (a.put o.dst undef) w') :
    wpList P ops Q (o :: rest) a w :=
  wpList_insert_held w hg m x v t hop k e (string_keyed hk) ht b n D hm hown hn _ val _ hx hv (WideMaps.keyOf_string_mk hk hs) hK
theorem run_lookupOk_held {P : Program} {w : World} {t k e : TypeId} (K : Keyed P k) (ht : P.underlying t = some (.map k e)) {z : Value} (hz : (zeroValue e).run P w = .ok z w) {b n : Nat} {D : DataW Value}
    (hown : w.ownsMap P k HR b n D) {key : Value} {kl : Lit} (hkey : keyOf P k key = some kl) :
    (∀ V, D.atKey kl .nil = .held V → (Instr.lookup t (.map (some b)) key true).run P w = .ok (.tuple #[V, .bool true]) w) ∧
    (D.atKey kl .nil = .nil → (Instr.lookup t (.map (some b)) key true).run P w = .ok (.tuple #[z, .bool false]) w) := by
  obtain ⟨es, clock, hb, F, _, rfl⟩ := hown
  rcases Maps.fit_look true K ht hz hb F hkey with ⟨hrun, _, hat⟩ | ⟨e0, y, _, _, hrun, hRv, hat, _⟩
  · exact ⟨fun V hV => absurd ((hat .nil).symm.trans hV) (by simp), fun _ => hrun⟩
  · have hy : y = (.held e0.val, []) := (Option.some.inj hRv).symm
    subst hy
    refine ⟨fun V hV => ?_, fun hV => absurd ((hat .nil).symm.trans hV) (by simp)⟩
    rw [hat .nil] at hV
    injection hV with hV
    rw [← hV]; exact hrun
/-- 'v, ok := m[k]', at the operation -/
theorem wpList_lookup_held {P : Program} (w : World) {ops : Array Oper} {rest : List Oper} {o : Oper} {a : Act} {Q : Exit → Act → World → Prop}
    (hg : o.guard = none) (m x : Operand) (t : TypeId) (hop : o.op = Op.lookup t m x true)
    (k e : TypeId) (K : Keyed P k) (ht : P.underlying t = some (.map k e)) {z : Value} (hz : (zeroValue e).run P w = .ok z w) (b n : Nat) (D : DataW Value)
    (hm : a.eval m = .map (some b)) (hown : w.ownsMap P k HR b n D) (key : Value) (kl : Lit) (hx : a.eval x = key) (hkey : keyOf P k key = some kl) (r : Value)
    (hr : (∃ V, D.atKey kl .nil = .held V ∧ r = .tuple #[V, .bool true]) ∨ (D.atKey kl .nil = .nil ∧ r = .tuple #[z, .bool false]))
    (hK : wpList P ops Q rest (a.put o.dst r) w) :
    wpList P ops Q (o :: rest) a w := by
  refine wpList_plain hg fun K' hK' => ?_
  have hrun : (Instr.lookup t (.map (some b)) key true).run P w = .ok r w := by
    obtain ⟨h1, h2⟩ := run_lookupOk_held K ht hz hown hkey
    rcases hr with ⟨V, hV, rfl⟩ | ⟨hn, rfl⟩
    · exact h1 V hV
    · exact h2 hn
  unfold Oper.wp
  simp [execOp, hop, hm, hx, hrun, Result.andThen]
  exact hK' _ _ hK
theorem wpList_lookup_str {P : Program} {w : World} {ops : Array Oper} {rest : List Oper} {o : Oper} {a : Act} {Q : Exit → Act → World → Prop} {m x : Operand} {t k e : TypeId} {z : Value} {b n : Nat} {D : DataW Value} {s : ByteArray} {r : Value}
    (hg : o.guard = none) (hop : o.op = Op.lookup t m x true) (hk : P.underlying k = some .string) (ht : P.underlying t = some (.map k e)) (hz : (zeroValue e).run P w = .ok z w)
    (hm : a.eval m = .map (some b)) (hown : w.ownsMap P k HR b n D) (hx : a.eval x = .string s) (hs : s.size ≤ maxLen)
    (hr : (∃ V, D.atKey (.string s.data.toList) .nil = .held V ∧ r = .tuple #[V, .bool true]) ∨ (D.atKey (.string s.data.toList) .nil = .nil ∧ r = .tuple #[z, .bool false]))
    (hK : wpList P ops Q rest (a.put o.dst r) w) :
    wpList P ops Q (o :: rest) a w :=
  wpList_lookup_held w hg m x t hop k e (string_keyed hk) ht hz b n D hm hown _ _ hx (WideMaps.keyOf_string_mk hk hs) r hr hK
/-- 'm[k] = v' of a map literal, where the operation stands half run -/
theorem upon_insert_str {P : Program} {o : Oper} {a : Act} {K : Act → World → Prop} {Q : Exit → Act → World → Prop} {w : World} {t k e : TypeId} {b n : Nat} {D : DataW Value} {s : ByteArray} {val : Value} {F : Unit → World → Result Next}
    (hk : P.underlying k = some .string) (ht : P.underlying t = some (.map k e)) (hown : w.ownsMap P k HR b n D) (hn : n < maxLen) (hs : s.size ≤ maxLen)
    (hK : ∀ w', w'.ownsMap P k HR b (n + 1) (D.put (.string s.data.toList) (.held val)) → w.grownBy w' (some b) → Oper.upon P o a K Q (F () w')) :
    Oper.upon P o a K Q (((Instr.mapUpdate t (.map (some b)) (.string s) val).run P w).andThen F) := by
  obtain ⟨w', hrun, r1, r2⟩ := hown.update (string_keyed hk) ht hn (WideMaps.keyOf_string_mk hk hs) (show HR val = some (.held val, []) from rfl)
  rw [hrun]
  exact hK w' r1 r2
theorem upon_lookup_str {P : Program} {o : Oper} {a : Act} {K : Act → World → Prop} {Q : Exit → Act → World → Prop} {w : World} {t k e : TypeId} {z : Value} {b n : Nat} {D : DataW Value} {s : ByteArray} {r : Value} {F : Value → World → Result Next}
    (hk : P.underlying k = some .string) (ht : P.underlying t = some (.map k e)) (hz : (zeroValue e).run P w = .ok z w) (hown : w.ownsMap P k HR b n D) (hs : s.size ≤ maxLen)
    (hr : (∃ V, D.atKey (.string s.data.toList) .nil = .held V ∧ r = .tuple #[V, .bool true]) ∨ (D.atKey (.string s.data.toList) .nil = .nil ∧ r = .tuple #[z, .bool false]))
    (hK : Oper.upon P o a K Q (F r w)) :
    Oper.upon P o a K Q (((Instr.lookup t (.map (some b)) (.string s) true).run P w).andThen F) := by
  have hrun : (Instr.lookup t (.map (some b)) (.string s) true).run P w = .ok r w := by
    obtain ⟨h1, h2⟩ := run_lookupOk_held (string_keyed hk) ht hz hown (WideMaps.keyOf_string_mk hk hs)
    rcases hr with ⟨V, hV, rfl⟩ | ⟨hn, rfl⟩
    · exact h1 V hV
    · exact h2 hn
  rw [hrun]
  exact hK
end Go.Proofs.Ytfhgnolfhiffbaa
