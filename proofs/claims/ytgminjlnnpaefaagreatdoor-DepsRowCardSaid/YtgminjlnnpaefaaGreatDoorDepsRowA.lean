/- chequerlaw13's DepsRow: what stands behind k's reckoning, its start in the machine. -/
import Derived.Test.YtgminjlnnpaefaaGreatDoorMem
import Derived.Test.YtgminjlnnpaefaaGreatDoorVmY
namespace Go.Proofs.YtgminjlnnpaefaaGreatDoor
open Go.RowKit
namespace VM
noncomputable section
theorem repX_lit {σ : Mp} {vs : List (Option V)} {xs : List Value} (m : Nat) (h : RepL σ (vs.map (·.getD undefV)) xs) :
    RepX σ (T.ofL vs 0 .leaf) (xs.length + m) (xs ++ List.replicate m undef).toArray none_ := by
  have hl := h.length
  rw [List.length_map] at hl
  refine ⟨by simp, fun i _ => ?_⟩
  rw [T.get_ofL, T.get_leaf]
  by_cases hi : i < vs.length
  · rw [if_pos ⟨Nat.zero_le _, by omega⟩]
    have hi2 : i < xs.length := by omega
    obtain ⟨x, h1, h2⟩ := h.get (i := i) (v := (vs[i]).getD undefV) (by simp [hi])
    have e : (xs ++ List.replicate m undef).toArray.getD i undef = x := by
      obtain ⟨_, h3⟩ := List.getElem?_eq_some_iff.1 h1
      have : i < xs.length + m := by omega
      simp [Array.getD, this, hi2, h3]
    rw [e]
    simpa [hi] using h2
  · rw [if_neg (by omega)]
    have e : (xs ++ List.replicate m undef).toArray.getD i undef = undef := by
      simp only [Array.getD]
      split
      · have hi2 : ¬ i < xs.length := by omega
        simp [List.getElem_append, hi2]
      · rfl
    rw [e]
    exact Rep.undef σ
/-- the machine's start behind k's reckoning -/
def st0 (n m : Int) (k : Nat) (b : Bool) : St :=
  ⟨T.ofL [some (.int .u8 n), some (.bool b), none, none, some (.bool false), some (.int .i64 (.ofNat k)), none, none, none, none, none, none, some (.int .u8 n), some (.int .i64 n), some (.int .i64 m), some (.int .i64 (.ofNat k))] 0 .leaf, ⟨.leaf, 0⟩, [], 92⟩
def seeS : Option (Ex × St) → Bool
  | some (.ret, s) => match s.d, s.t.get 4 with
    | [], some (.bool true) => true
    | _, _ => false
  | _ => false
end
end VM
def tail2 : Code → Code
  | .seq _ (.seq _ c) => c
  | c => c
noncomputable def rowRest : Code := tail2 (Tryz.f4.body.getD .skip)
theorem rowBody : Tryz.f4.body = some ((Code.region 0 #[{ dst := some 4, op := Op.assign (Operand.const (Value.bool false)), type := 4, pos := "law.go:118", after := #[], guard := none }] false).seq
    ((Code.region 1 #[{ dst := some 12, op := Op.move (Operand.tmp 0), type := 5, pos := "law.go:119", after := #[], guard := none },
      { dst := some 13, op := Op.convert 5 3 (Operand.tmp 12), type := 3, pos := "law.go:119", after := #[{ on := 0, ground := Ground.data }], guard := none },
      { dst := some 14, op := Op.binOp BinOp.rem 3 (Operand.tmp 13) (Operand.const (Value.int IntKind.i64 10)) 3, type := 3, pos := "law.go:119", after := #[{ on := 1, ground := Ground.data }], guard := none },
      { dst := some 15, op := Op.binOp BinOp.add 3 (Operand.const (Value.int IntKind.i64 2)) (Operand.tmp 14) 3, type := 3, pos := "law.go:119", after := #[{ on := 2, ground := Ground.data }], guard := none },
      { dst := some 5, op := Op.assign (Operand.tmp 15), type := 3, pos := "law.go:119",
        after := #[{ on := 3, ground := Ground.data }, { on := 0, ground := Ground.phase }, { on := 1, ground := Ground.phase }, { on := 2, ground := Ground.phase }, { on := 3, ground := Ground.phase }], guard := none }] false).seq rowRest)) := by kernel_rfl
theorem rest_ok {k : Nat} {b : Bool} (run : ∀ n m : Int, VM.seeS (VM.exec VM.E2 3000 rowRest (VM.st0 n m k b)) = true) (n m : Int) (w : World) :
    Code.wp Tryz.prog rowRest (bodyPost Tryz.prog Tryz.f4 fun e w' => e = .returned (.bool true) ∧ Below w.heap.size w w')
      { tmps := ([Value.int .u8 n, .bool b, undef, undef, .bool false, .int .i64 k, undef, undef, undef, undef, undef, undef, .int .u8 n, .int .i64 n, .int .i64 m, .int .i64 k] ++ List.replicate 76 undef).toArray, defers := [] } w := by
  have h := run n m
  cases hx : VM.exec VM.E2 3000 rowRest (VM.st0 n m k b) with
  | none => rw [hx] at h; cases h
  | some p =>
    obtain ⟨e, s'⟩ := p
    rw [hx] at h
    unfold VM.seeS at h
    split at h
    · rename_i s2 heq
      cases heq
      split at h
      · rename_i hd h4
        refine VM.exec_ok2 _ _ _ _ hx w.heap.size (fun _ => none) _ w _ ⟨?_, VM.Rel.none w, .nil⟩ fun σ' a' w' _ _ g3 g4 => ?_
        · exact VM.repX_lit (σ := fun _ => none) (vs := [some (.int .u8 n), some (.bool b), none, none, some (.bool false), some (.int .i64 (.ofNat k)), none, none, none, none, none, none, some (.int .u8 n), some (.int .i64 n), some (.int .i64 m), some (.int .i64 (.ofNat k))]) 76
            (.cons _ _ _ _ (.int _ _) (.cons _ _ _ _ (.bool _) (.cons _ _ _ _ (VM.Rep.undef _) (.cons _ _ _ _ (VM.Rep.undef _) (.cons _ _ _ _ (.bool _) (.cons _ _ _ _ (.int _ _)
            (.cons _ _ _ _ (VM.Rep.undef _) (.cons _ _ _ _ (VM.Rep.undef _) (.cons _ _ _ _ (VM.Rep.undef _) (.cons _ _ _ _ (VM.Rep.undef _) (.cons _ _ _ _ (VM.Rep.undef _) (.cons _ _ _ _ (VM.Rep.undef _)
            (.cons _ _ _ _ (.int _ _) (.cons _ _ _ _ (.int _ _) (.cons _ _ _ _ (.int _ _) (.cons _ _ _ _ (.int _ _) .nil))))))))))))))))
        · have h5 := g3.t.at_ 4 (fun h => h)
          rw [h4] at h5
          have h6 : a'.tmps.getD 4 undef = .bool true := by
            have h5 : VM.Rep σ' (.bool true) (a'.tmps.getD 4 undef) := h5
            generalize a'.tmps.getD 4 undef = z at h5 ⊢
            cases h5
            rfl
          have h7 : a'.defers = [] := by
            have := g3.d
            rw [hd] at this
            generalize a'.defers = l at this ⊢
            cases this
            rfl
          refine bodyPost_ret (v := .bool true) ?_ h7 ⟨rfl, g4⟩
          simp [results, Tryz.f4, go_sem]
          rw [← Array.getD_eq_getD_getElem?]
          exact h6
      · cases h
    · cases h
end Go.Proofs.YtgminjlnnpaefaaGreatDoor
