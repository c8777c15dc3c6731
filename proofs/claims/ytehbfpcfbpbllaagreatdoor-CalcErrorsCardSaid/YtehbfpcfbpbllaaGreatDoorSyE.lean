/- The machine with linear sums and their texts on this program: hooks for the place of a byte, for a number's text. -/
import Derived.Test.YtehbfpcfbpbllaaGreatDoorSyH
import Derived.Test.YtehbfpcfbpbllaaGreatDoorVmN
import Derived.Test.YtehbfpcfbpbllaaGreatDoorCRDig
import Derived.Test.YtehbfpcfbpbllaaGreatDoorItoa
import Derived.Lib.AppendIntMem
namespace Go.Proofs.YtehbfpcfbpbllaaGreatDoor
/-- the table that strconv reads -/
def Tab (w : World) : Prop := Lib.TabIs Tryz.prog w "internal/strconv.uint64pow10" .u64 Lib.pow10Tab
namespace VM
open Go Go.RowKit
set_option linter.unusedVariables false
set_option linter.unusedSectionVars false
set_option maxRecDepth 20000
noncomputable section
abbrev Hook := List V → Hp → Option (V × Hp)
def hooksOf : List (Nat × Hook) → Nat → Option Hook
  | [], _ => none
  | p :: r, f => bif Nat.beq f p.1 then some p.2 else hooksOf r f
section
variable [Sy]
def HookOK (f : Nat) (g : Hook) : Prop :=
  ∀ (N : Nat) (al : List V) (h : Hp) (v : V) (h' : Hp), g al h = some (v, h') → ∀ (σ : Mp) (w : World) (xs : List Value), Rel N σ h w → RepL σ al xs →
    match (callFunc f xs.toArray).run Tryz.prog w with
    | .ok (.value x) w' => Does N σ h w v h' x w'
    | .ok (.enter g ys) w' => Calls Tryz.prog g ys w' fun e w'' => ∃ x, e = .returned x ∧ Does N σ h w v h' x w''
    | _ => False
theorem hooksOf_ok : ∀ {l : List (Nat × Hook)}, (∀ p ∈ l, HookOK p.1 p.2) → ∀ {f : Nat} {g : Hook}, hooksOf l f = some g → HookOK f g
  | [], _, _, _, h => by cases h
  | p :: r, hl, f, g, h => by
    rw [hooksOf] at h
    cases hb : Nat.beq f p.1 with
    | true =>
      rw [hb] at h
      cases h
      rw [Nat.eq_of_beq_eq_true hb]
      exact hl p (List.mem_cons_self ..)
    | false =>
      rw [hb] at h
      exact hooksOf_ok (fun q hq => hl q (List.mem_cons_of_mem _ hq)) h
theorem enter_of {f : Nat} {fn : Func} (hf : Tryz.prog.funcs[f]? = some fn) (hb : fn.body.isNone = false) (args : Array Value) (w : World) : (callFunc f args).run Tryz.prog w = .ok (.enter f args) w := by
  unfold callFunc
  simp only [Sem.run_bind, run_program, Result.andThen_ok, hf, nameOK f fn hf, Bool.false_eq_true, if_false, hb, Sem.run_pure]
theorem envOK_so (P : Program) (hook : Nat → Option (List V → Hp → Option (V × Hp))) (idle : Nat → List V → Bool) (so : SOp → List V → Option V) (hm : P.follows .mixedOrders = true) (hs : SopOK (Env.of P hook idle so)) (hg : ∀ g off t v, so (.glob g off t) [] = some v → ∀ w : World, (∀ p ∈ Sy.tab, w.heap[p.1]? = some p.2) → ∃ x, (loadVar t ⟨g, off, none⟩).run P w = .ok x w ∧ ∀ σ, Rep σ v x) : EnvOK P (Env.of P hook idle so) :=
  ⟨fun t i h => ofL_range (tiOf P) _ t i h, fun f fn h => ofL_all P.funcs f fn h, hm, hs, hg⟩
/-- what a contract says, a hook may say -/
theorem hook_of {f : Nat} {fn : Func} (hf : Tryz.prog.funcs[f]? = some fn) (hb : fn.body.isNone = false) {N : Nat} {σ : Mp} {h : Hp} {w : World} {xs : List Value} {v : V} {X : Value} (R : Rel N σ h w) (hr : Rep σ v X)
    (hc : Calls Tryz.prog f xs.toArray w fun e w' => e = .returned X ∧ Below w.heap.size w w') :
    match (callFunc f xs.toArray).run Tryz.prog w with
    | .ok (.value x) w' => Does N σ h w v h x w'
    | .ok (.enter g ys) w' => Calls Tryz.prog g ys w' fun e w'' => ∃ x, e = .returned x ∧ Does N σ h w v h x w''
    | _ => False := by
  rw [enter_of hf hb]
  refine hc.mono ?_
  rintro e w' ⟨rfl, hb⟩
  exact ⟨X, rfl, Does.stay hr (R.world hb) (hb.mono R.base) (Nat.le_refl _)⟩
theorem memos_ok {f : Nat} {ms : List Memo} (h : ∀ m ∈ ms, MemoOK Tryz.prog f m) : HookOK f (memoH ms) := fun N al h' v h2 hc σ w xs R hr => memoH_sound h N al h' v h2 hc σ w xs R hr
theorem idxH_ok : HookOK 220 idxH := fun N al h v h' hc => @hooksOK _ 220 idxH rfl N al h v h' hc
end
section
variable {xs : List Int} {bs : Bs} (hb : inB bs xs) {tab : List (Nat × Obj)} (ht : ∀ w : World, (∀ p ∈ tab, w.heap[p.1]? = some p.2) → Tab w)
include hb
theorem idxS_ok : @HookOK (syL xs tab) 220 (idxS bs) := by
  letI : Sy := syL xs tab
  intro N al h v h' hc σ w ys R hr
  unfold idxS at hc
  split at hc
  · rename_i j c
    cases hq : Nat.blt c 256 with
    | false => rw [hq] at hc; cases hc
    | true =>
      rw [hq] at hc
      simp only [cond_true, Option.bind_eq_some_iff, Option.some.injEq, Prod.mk.injEq] at hc
      obtain ⟨z, hz, rfl, rfl⟩ := hc
      have hz2 := fnd_ok hb (by simpa [Nat.blt_eq] using hq) hz
      have hr2 : RepL σ [.str (Sy.s j), .int .u8 (.ofNat c)] ys := denL_rep hr
      refine idxH_ok N [.str (Sy.s j), .int .u8 (.ofNat c)] h (mkInt .i64 z) h ?_ σ w ys R hr2
      show (bif c.blt 256 then some (mkInt .i64 (idxB (tval xs (decT 4096 j)) c 0), h) else none) = _
      rw [hq]
      show some (mkInt .i64 (idxB (tval xs (decT 4096 j)) c 0), h) = _
      rw [hz2]
  · exact idxH_ok N al h v h' hc σ w ys R hr
theorem digS_some {al : List V} {h h' : Hp} {v : V} (hc : digS bs al h = some (v, h')) {σ : Mp} {ys : List Value} (hr : letI := syL xs tab; RepL σ al ys) :
    letI := syL xs tab; ∃ n : Int, ys = [.int .i64 n] ∧ -9223372036854775808 ≤ n ∧ n ≤ 9223372036854775807 ∧ h' = h ∧ Rep σ v (.string ⟨(Lib.itoa n).toArray⟩) := by
  letI : Sy := syL xs tab
  unfold digS at hc
  split at hc
  · rename_i u
    split at hc
    · rename_i l hl
      cases hq : ilt (lhi l ((1, 1) :: bs)) 9223372036854775808 with
      | false => rw [hq] at hc; cases hc
      | true =>
      rw [hq] at hc
      simp only [cond_true, Option.bind_eq_some_iff, Option.some.injEq, Prod.mk.injEq] at hc
      obtain ⟨r, h1, t, h2, rfl, rfl⟩ := hc
      rw [ilt_eq, decide_eq_true_iff] at hq
      obtain ⟨q1, q2⟩ := l_in l _ _ (in1 hb)
      have e1 := lin_den (tab := tab) (xs := xs) hl
      cases hr with | cons _ x _ _ r1 r2 =>
      cases r2
      have r3 := den_rep r1
      rw [e1] at r3
      cases r3
      obtain ⟨h3, h4⟩ := digL_ok hb h1
      have e2 := itoa_dig hb h1
      refine ⟨_, rfl, by omega, by omega, rfl, ?_⟩
      · rw [e2]
        refine rep_den ?_
        rw [mkT_ok (tab := tab) h2]
        refine .str _ fun b hb' => ?_
        rw [← h4, List.mem_map] at hb'
        obtain ⟨a, _, rfl⟩ := hb'
        exact a.toNat_lt
    · cases hc
  · cases hc
theorem digits_ok : @HookOK (syL xs tab) 7 (digS bs) := by
  letI : Sy := syL xs tab
  intro N al h v h' hc σ w ys R hr
  obtain ⟨n, rfl, h1, h2, rfl, h3⟩ := digS_some (tab := tab) hb hc hr
  exact hook_of Tryz.func7 (by kernel_rfl) R h3 (rdig_any w n ⟨by omega, by omega⟩)
include ht
theorem itoaS_ok : @HookOK (syL xs tab) 21 (digS bs) := by
  letI : Sy := syL xs tab
  intro N al h v h' hc σ w ys R hr
  obtain ⟨n, rfl, h1, h2, rfl, h3⟩ := digS_some (tab := tab) hb hc hr
  refine hook_of Tryz.func21 (by kernel_rfl) R h3 ((itoa_any n h1 h2 w (ht w fun p hp => (R.tab p hp).2)).mono ?_)
  rintro e w' ⟨rfl, k, os, rfl⟩
  exact ⟨rfl, Lib.below_grow w.heap.size w (Nat.le_refl _) k os⟩
end
/-- the machine that reckons with sums alone -/
def hooksM (bs : Bs) : List (Nat × Hook) := [(220, idxS bs), (21, digS bs), (7, digS bs)]
/-- strconv's errors -/
def globs : List (Nat × TypeId) := [(0, 82)]
def EmH (bs : Bs) (l : List (Nat × Hook)) : Env := Env.of Tryz.prog (hooksOf l) idles (soX globs bs)
def Em (bs : Bs) : Env := EmH bs (hooksM bs)
section
variable {xs : List Int} {bs : Bs} (hb : inB bs xs) {tab : List (Nat × Obj)} (ht : ∀ w : World, (∀ p ∈ tab, w.heap[p.1]? = some p.2) → Tab w) (hg : GlobOK Tryz.prog tab globs)
theorem idleM [Sy] (bs : Bs) (l : List (Nat × Hook)) : IdleOK Tryz.prog (EmH bs l) := @idleOK _
include hb hg
theorem envM (l : List (Nat × Hook)) : @EnvOK (syL xs tab) Tryz.prog (EmH bs l) := by
  letI := syL xs tab
  exact envOK_so _ _ _ _ (by kernel_rfl) (sopX hb rfl) (globX hg)
omit hg
include ht
theorem hooksM_ok : letI := syL xs tab; ∀ p ∈ hooksM bs, HookOK p.1 p.2 := by
  letI := syL xs tab
  intro p hp
  simp only [hooksM, List.mem_cons, List.not_mem_nil, or_false] at hp
  rcases hp with rfl | rfl | rfl
  · exact idxS_ok hb
  · exact itoaS_ok hb ht
  · exact digits_ok hb
theorem hooksOKm : @HooksOK (syL xs tab) Tryz.prog (Em bs) := by
  letI := syL xs tab
  intro f g hg
  exact hooksOf_ok (hooksM_ok hb ht) hg
end
end
end VM
end Go.Proofs.YtehbfpcfbpbllaaGreatDoor
