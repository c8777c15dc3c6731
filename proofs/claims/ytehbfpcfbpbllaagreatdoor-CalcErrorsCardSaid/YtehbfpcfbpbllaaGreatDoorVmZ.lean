/- The machine of plain data on this program: its environment is sound; its hooks, and the deferred call that does nothing. -/
import Derived.Test.YtehbfpcfbpbllaaGreatDoorVmI
import Derived.Test.YtehbfpcfbpbllaaGreatDoorChecked
import Derived.KernelRfl
import Derived.RowKit
import Derived.Recover
import Derived.Defers
import Derived.Laws.Externs
import Derived.Lib.Bytealg
namespace Go.Proofs.YtehbfpcfbpbllaaGreatDoor.VM
open Go
open Go.RowKit
set_option linter.unusedSectionVars false
variable [Sy]
def idxB : List Nat → Nat → Nat → Int
  | [], _, _ => -1
  | b :: r, c, i => bif Nat.beq b c then (.ofNat i : Int) else idxB r c (i+1)
def idxH (xs : List V) (h : Hp) : Option (V × Hp) := match xs with | [.str s, .int .u8 (.ofNat c)] => bif Nat.blt c 256 then some (mkInt .i64 (idxB s c 0), h) else none | _ => none
def hooks : Nat → Option (List V → Hp → Option (V × Hp)) := fun f => bif Nat.beq f 220 then some idxH else none
def twoP : List V → Bool
  | [.ptr _ _, .ptr _ _] => true
  | _ => false
def idles (f : Nat) (al : List V) : Bool := bif Nat.beq f 43 then twoP al else false
def isV : Option (V × Hp) → Option V
  | some (v, _) => some v
  | none => none
noncomputable def E : Env := Env.of Tryz.prog hooks idles
theorem ofL_range {α : Type} (g : Nat → Option α) (n i : Nat) (x : α) (h : (T.ofL ((List.range n).map g) 0 .leaf).get i = some x) : g i = some x := by
  rw [T.get_ofL, T.get_leaf] at h
  split at h
  · rename_i hi
    simp at hi
    simpa [hi] using h
  · cases h
theorem ofL_all {α : Type} (l : Array α) (i : Nat) (x : α) (h : (T.ofL (l.toList.map some) 0 .leaf).get i = some x) : l[i]? = some x := by
  rw [T.get_ofL, T.get_leaf] at h
  split at h
  · rename_i hi
    simp at hi
    simpa [hi] using h
  · cases h
theorem envOK_of (P : Program) (hook : Nat → Option (List V → Hp → Option (V × Hp))) (idle : Nat → List V → Bool) (hm : P.follows .mixedOrders = true) : EnvOK P (Env.of P hook idle) :=
  ⟨fun t i h => ofL_range (tiOf P) _ t i h, fun f fn h => ofL_all P.funcs f fn h, hm, ⟨fun _ _ _ _ h => (by cases h), fun _ _ _ h => (by cases h), fun _ _ _ _ h => (by cases h), fun _ _ h => (by cases h), fun _ _ _ _ h => (by cases h), fun _ _ h => (by cases h), fun _ _ h => (by cases h), fun _ _ _ h => (by cases h), fun _ _ _ h => (by cases h)⟩, fun _ _ _ _ h => (by cases h)⟩
theorem envOK : EnvOK Tryz.prog E := envOK_of _ _ _ (by kernel_rfl)
theorem names_tell : (Tryz.prog.funcs.toList.all fun fn => !(fn.name == "runtime.NumGoroutine")) = true := by kernel_rfl
theorem nameOK : NameOK Tryz.prog := by
  intro f fn hf
  have h := List.all_eq_true.1 names_tell fn (by rw [Array.mem_toList_iff]; exact Array.mem_of_getElem? hf)
  simpa using h
theorem idxB_eq : ∀ (s : List Nat) (c i : Nat), (∀ b ∈ s, b < 256) → c < 256 → idxB s c i = if Lib.indexByte (s.map Nat.toUInt8) c.toUInt8 = -1 then -1 else Lib.indexByte (s.map Nat.toUInt8) c.toUInt8 + i
  | [], c, i, _, _ => by simp [idxB, Lib.indexByte]
  | b :: r, c, i, hs, hc => by
    have ih := idxB_eq r c (i + 1) (fun x hx => hs x (by simp [hx])) hc
    have hb := hs b (by simp)
    have hge := Lib.indexByte_ge (r.map Nat.toUInt8) c.toUInt8
    have e : (b.toUInt8 == c.toUInt8) = Nat.beq b c := by
      rw [Bool.eq_iff_iff, beq_iff_eq, Nat.beq_eq]
      constructor
      · intro h
        have := congrArg UInt8.toNat h
        simp at this
        omega
      · rintro rfl; rfl
    rw [idxB, ih, List.map_cons, Lib.indexByte, e]
    cases Nat.beq b c with
    | true => simp
    | false =>
      simp only [cond_false, Bool.false_eq_true, if_false]
      generalize Lib.indexByte (r.map Nat.toUInt8) c.toUInt8 = q at *
      by_cases hq : q = -1
      · subst hq; simp
      · have h2 : ¬ q + 1 = -1 := by omega
        simp [hq, h2]
        omega
theorem hooksOK : HooksOK Tryz.prog E := by
  intro f g hg N al h v h' hc σ w xs R hr
  have hg' : (bif Nat.beq f 220 then some idxH else none) = some g := hg
  cases hf : Nat.beq f 220 with
  | false => rw [hf] at hg'; cases hg'
  | true =>
    have := Nat.eq_of_beq_eq_true hf
    subst this
    rw [hf] at hg'
    cases hg'
    unfold idxH at hc
    split at hc
    · rename_i s c
      cases hb : Nat.blt c 256 with
      | false => rw [hb] at hc; cases hc
      | true =>
        rw [hb] at hc
        cases hc
        have hc2 : c < 256 := by simpa [Nat.blt_eq] using hb
        cases hr with
        | cons _ x _ y r1 r2 =>
          cases r2 with
          | cons _ x2 _ y2 r3 r4 =>
            cases r4
            cases r1 with
            | str _ hs =>
              cases r3
              rw [run_callFunc_extern Tryz.func220 (by kernel_rfl) (by kernel_rfl) (by kernel_rfl) (e := Extern.BytealgIndexByte.indexByte) (by kernel_rfl), Lib.run_indexByteString]
              refine Does.stay ?_ R (Below.refl _ _) (Nat.le_refl _)
              rw [mkInt_eq]
              have e : idxB s c 0 = Lib.indexByte (bytesOf s).data.toList (Int.ofNat c).toNat.toUInt8 := by
                rw [idxB_eq s c 0 hs hc2]
                show _ = Lib.indexByte (s.map Nat.toUInt8) c.toUInt8
                split
                · rename_i h; rw [h]
                · simp
              rw [e]
              exact Rep.int _ _
    · cases hc
theorem catch_idle (p q : Addr) (w : World) :
    CallsD Tryz.prog 43 #[.pointer (some p), .pointer (some q)] .returning w fun e u' w' => e = .returned (.tuple #[]) ∧ u' = .returning ∧ w' = w := by
  refine callsD_of_wpS Tryz.func43 rfl fun c₀ cs hu => ?_
  apply wpS_seq
  apply wpS_region
  simp [wpOpsS, go_sem, recoverD, hu, Tryz.ntmps43, Exit.thenS]
  apply wpS_seq
  apply wpS_region
  simp [wpOpsS, go_sem, Exit.thenS]
  refine wpS_cond (t := false) (by simp [Act.eval, Array.replicate]) ?_
  simp only [Bool.false_eq_true, if_false]
  refine wpS_of_wp (wp_skip ?_)
  cases c₀
  simp_all [bodyPostS, results, Tryz.results43]
theorem idleOK : IdleOK Tryz.prog E := by
  intro f al hi N σ h w xs R hr
  have hi' : (bif Nat.beq f 43 then twoP al else false) = true := hi
  cases hf : Nat.beq f 43 with
  | false => rw [hf] at hi'; cases hi'
  | true =>
    have := Nat.eq_of_beq_eq_true hf
    subst this
    rw [hf] at hi'
    simp only [cond_true] at hi'
    unfold twoP at hi'
    split at hi'
    · cases hr with
      | cons _ x _ y r1 r2 =>
        cases r2 with
        | cons _ x2 _ y2 r3 r4 =>
          cases r4
          cases r1
          cases r3
          refine ⟨?_, (catch_idle _ _ _).mono fun e u' w' ⟨h1, h2, h3⟩ => ⟨⟨_, h1⟩, h2, by rw [h3]; exact Below.refl _ _⟩⟩
          unfold callFunc
          simp only [Sem.run_bind, run_program, Result.andThen_ok, Tryz.func43, nameOK _ _ Tryz.func43, Bool.false_eq_true, if_false]
          rfl
    · cases hi'
/-- what the machine says of a function of this program, the code keeps -/
theorem calls_of_run {f : Nat} {fn : Func} (hf : Tryz.prog.funcs[f]? = some fn) (hb : fn.body.isNone = false) {al : List V} {h h' : Hp} {v : V} {n : Nat} (hc : callOf E (exec E n) f al h = some (v, h')) {N : Nat} {σ : Mp} {w : World} {xs : List Value} (R : Rel N σ h w) (hr : RepL σ al xs) :
    Calls Tryz.prog f xs.toArray w fun e w'' => ∃ x, e = .returned x ∧ Does N σ h w v h' x w'' :=
  @runs _ Tryz.prog E envOK (@idleOK _) (@hooksOK _) nameOK f fn hf hb al h h' v n hc N σ w xs R hr
end Go.Proofs.YtehbfpcfbpbllaaGreatDoor.VM
