/- Values: the walks of val's small functions; a map of functions. -/
import Derived.Test.YtcbaioagcemmnaaDoorChecked
import Derived.Test.YtcbaioagcemmnaaDoorMem
import Derived.WalkKit
import Derived.BigQuiet
import Derived.Lib.Hide
import Derived.Maps.OwnOps
namespace Go.Proofs.YtcbaioagcemmnaaDoor
open Go.RowKit Go.Maps

/-- 'm[k] = v' of a map literal, at the operation -/
theorem wpList_insert_own {H : Type} {P : Program} (w : World) {ops : Array Oper} {rest : List Oper} {o : Oper} {a : Act} {Q : Exit → Act → World → Prop}
    (hg : o.guard = none) (m x v : Operand) (t : TypeId) (hop : o.op = Op.insert t m x v)
    (k e : TypeId) (K : Keyed P k) (ht : P.underlying t = some (.map k e)) (R : Value → Option (DataW H × List MemPlace)) (b n : Nat) (D : DataW H)
    (hm : a.eval m = .map (some b)) (hown : w.ownsMap P k R b n D) (hn : n < maxLen) (key val : Value) (kl : Lit) (hx : a.eval x = key) (hv : a.eval v = val) (hkey : keyOf P k key = some kl)
    (d : DataW H) (ps : List MemPlace) (hval : R val = some (d, ps))
    (hK : ∀ w', w'.ownsMap P k R b (n + 1) (D.put kl d) → w.grownBy w' (some b) → wpList P ops Q rest (a.put o.dst undef) w') :
    wpList P ops Q (o :: rest) a w := by
  refine wpList_plain hg fun K' hK' => ?_
  obtain ⟨w', hrun, r1, r2⟩ := hown.update K ht hn hkey hval
  unfold Oper.wp
  simp [execOp, hop, hm, hx, hv, hrun, Result.andThen]
  exact hK' _ _ (hK w' r1 r2)
/-- 'm[k]', at the operation -/
theorem wpList_lookup_own {H : Type} {P : Program} (w : World) {ops : Array Oper} {rest : List Oper} {o : Oper} {a : Act} {Q : Exit → Act → World → Prop}
    (hg : o.guard = none) (m x : Operand) (t : TypeId) (hop : o.op = Op.lookup t m x false)
    (k e : TypeId) (K : Keyed P k) (ht : P.underlying t = some (.map k e)) (R : Value → Option (DataW H × List MemPlace)) {z : Value} (hz : (zeroValue e).run P w = .ok z w) {zd : DataW H} {zp : List MemPlace} (hzd : R z = some (zd, zp)) (b n : Nat) (D : DataW H)
    (hm : a.eval m = .map (some b)) (hown : w.ownsMap P k R b n D) (key : Value) (kl : Lit) (hx : a.eval x = key) (hkey : keyOf P k key = some kl)
    (hK : ∀ v ps, R v = some (D.atKey kl zd, ps) → wpList P ops Q rest (a.put o.dst v) w) :
    wpList P ops Q (o :: rest) a w := by
  refine wpList_plain hg fun K' hK' => ?_
  obtain ⟨v, ps, hrun, hv⟩ := hown.lookup K ht hz hzd hkey
  unfold Oper.wp
  simp [execOp, hop, hm, hx, hrun, Result.andThen]
  exact hK' _ _ (hK v ps hv)

/-- how a function value of the table reads -/
def FR (v : Value) : Option (DataW Unit × List MemPlace) := match v with
  | .func (.func f) a b => if a.size = 0 ∧ b.size = 0 then some (.lit (.int .i64 f), []) else none
  | .nilFunc => some (.nil, [])
  | _ => none
theorem FR_inv {v : Value} {f : Nat} {ps : List MemPlace} (h : FR v = some (.lit (.int .i64 f), ps)) : v = .func (.func f) #[] #[] := by
  unfold FR at h
  split at h
  · rename_i f' a b
    split at h
    · rename_i hab
      injection h with h
      injection h with h _
      injection h with h
      injection h with _ h
      have e : f' = f := Int.ofNat.inj h
      rw [e, Array.eq_empty_of_size_eq_zero hab.1, Array.eq_empty_of_size_eq_zero hab.2]
    · cases h
  · cases h
  · cases h
theorem keyInt : Keyed Tryd.prog 3 := int_keyed Tryd.underlying3
theorem keyOfInt (a : Int) (h : (Lit.int .i64 a).wf = true) : keyOf Tryd.prog 3 (.int .i64 a) = some (.int .i64 a) := keyOf_int_mk Tryd.underlying3 h
theorem zeroFn (w : World) : (zeroValue 71).run Tryd.prog w = .ok .nilFunc w := by kernel_rfl
/-- the table: what each operator's key has -/
def opTab : DataW Unit := ((((DataW.map []).put (.int .i64 16) (.lit (.int .i64 53))).put (.int .i64 17) (.lit (.int .i64 54))).put (.int .i64 18) (.lit (.int .i64 55))).put (.int .i64 19) (.lit (.int .i64 56))
theorem opTab16 : opTab.atKey (.int .i64 16) .nil = .lit (.int .i64 53) := by rfl
theorem opTab17 : opTab.atKey (.int .i64 17) .nil = .lit (.int .i64 54) := by rfl
theorem opTab18 : opTab.atKey (.int .i64 18) .nil = .lit (.int .i64 55) := by rfl
theorem opTab19 : opTab.atKey (.int .i64 19) .nil = .lit (.int .i64 56) := by rfl

set_option maxRecDepth 100000 in
theorem add_any (w : World) (x y : Int) : Calls Tryd.prog 53 #[.agg #[.int .i64 x, .int .i64 y]] w fun e w' =>
    e = .returned (.tuple #[.int .i64 (wrap64 (x + y)), .bool (decide (x < wrap64 (x + y)) == decide (0 < y))]) ∧ Below w.heap.size w w' := by
  go_enter Tryd.func53, Tryd.ntmps53
  go_wp2
  go_quiet (fail)
  go_wp2
  go_ret2
  exact ⟨rfl, below_drewN ((Below.refl _ _).alloc (Nat.le_refl _) _) _⟩
end Go.Proofs.YtcbaioagcemmnaaDoor
