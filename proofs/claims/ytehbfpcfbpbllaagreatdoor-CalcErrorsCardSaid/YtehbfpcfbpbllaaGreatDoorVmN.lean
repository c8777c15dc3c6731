/- Calls whose runs from nothing are known, as hooks of the machine. No program in sight. -/
import Derived.Test.YtehbfpcfbpbllaaGreatDoorVmW
namespace Go.Proofs.YtehbfpcfbpbllaaGreatDoor.VM
open Go Go.RowKit
set_option linter.unusedSectionVars false
variable [Sy]
noncomputable section
structure Memo where
  al : List V
  v : V
  bs : List Blk
def MemoOK (P : Program) (f : Nat) (m : Memo) : Prop :=
  ∀ (N : Nat) (σ : Mp) (h : Hp) (w : World) (xs : List Value), Rel N σ h w → RepL σ m.al xs →
    match (callFunc f xs.toArray).run P w with
    | .ok (.value x) w' => Does N σ h w (m.v.ren fun i => h.n + i) (h.app (m.bs.map (Blk.ren fun i => h.n + i))) x w'
    | .ok (.enter g ys) w' => Calls P g ys w' fun e w'' => ∃ x, e = .returned x ∧ Does N σ h w (m.v.ren fun i => h.n + i) (h.app (m.bs.map (Blk.ren fun i => h.n + i))) x w''
    | _ => False
theorem memoOK_of {P : Program} {E : Env} (hE : EnvOK P E) (hI : IdleOK P E) (hH : HooksOK P E) (hname : NameOK P) {f n K : Nat} {ρ : List Nat} {m : Memo}
    (hrun : look ρ K (callOf E (exec E n) f m.al ⟨.leaf, 0⟩) = some (m.v.ren (rn ρ K), m.bs.map (Blk.ren (rn ρ K)))) (hal : allStr m.al = true) (hro : m.bs.all Blk.noRo = true) (hnd : ρ.Nodup) : MemoOK P f m :=
  fun _ _ _ _ _ R hr => memo_ok hE hI hH hname hrun hal hro hnd R hr
def eqN : List Nat → List Nat → Bool
  | [], [] => true
  | a :: l, b :: m => bif Nat.beq a b then eqN l m else false
  | _, _ => false
theorem eqN_eq : ∀ {l m : List Nat}, eqN l m = true → l = m
  | [], [], _ => rfl
  | a :: l, b :: m, h => by
    rw [eqN] at h
    cases hb : Nat.beq a b with
    | false => rw [hb] at h; cases h
    | true => rw [hb] at h; rw [Nat.eq_of_beq_eq_true hb, eqN_eq (l := l) (m := m) h]
  | [], _ :: _, h => by cases h
  | _ :: _, [], h => by cases h
def eqS : List V → List V → Bool
  | [], [] => true
  | .str s :: l, .str t :: m => bif eqN s t then eqS l m else false
  | .symS s :: l, .symS t :: m => bif Nat.beq s t then eqS l m else false
  | .symI k s :: l, .symI j t :: m => bif keq k j && Nat.beq s t then eqS l m else false
  | _, _ => false
theorem eqS_eq : ∀ {l m : List V}, eqS l m = true → l = m := by
  intro l m h
  fun_induction eqS l m with
  | case1 => rfl
  | case2 s l t m hb ih => rw [eqN_eq hb, ih h]
  | case3 => cases h
  | case4 s l t m hb ih => rw [Nat.eq_of_beq_eq_true hb, ih h]
  | case5 => cases h
  | case6 k s l j t m hb ih =>
    rw [Bool.and_eq_true] at hb
    rw [keq_eq hb.1, Nat.eq_of_beq_eq_true hb.2, ih h]
  | case7 => cases h
  | case8 => cases h
def memoH : List Memo → List V → Hp → Option (V × Hp)
  | [], _, _ => none
  | m :: r, al, h => bif eqS m.al al then some (m.v.ren fun i => h.n + i, h.app (m.bs.map (Blk.ren fun i => h.n + i))) else memoH r al h
theorem memoH_sound {P : Program} {f : Nat} : ∀ {ms : List Memo}, (∀ m ∈ ms, MemoOK P f m) → ∀ (N : Nat) (al : List V) (h : Hp) (v : V) (h' : Hp), memoH ms al h = some (v, h') → ∀ (σ : Mp) (w : World) (xs : List Value), Rel N σ h w → RepL σ al xs →
    match (callFunc f xs.toArray).run P w with
    | .ok (.value x) w' => Does N σ h w v h' x w'
    | .ok (.enter g ys) w' => Calls P g ys w' fun e w'' => ∃ x, e = .returned x ∧ Does N σ h w v h' x w''
    | _ => False
  | [], _, _, _, _, _, _, hc, _, _, _, _, _ => by cases hc
  | m :: r, hm, N, al, h, v, h', hc, σ, w, xs, R, hr => by
    rw [memoH] at hc
    cases hb : eqS m.al al with
    | false => rw [hb] at hc; exact memoH_sound (fun m' hm' => hm m' (List.mem_cons_of_mem _ hm')) N al h v h' hc σ w xs R hr
    | true =>
      rw [hb] at hc
      cases hc
      rw [← eqS_eq hb] at hr
      exact hm m List.mem_cons_self N σ h w xs R hr
end
end Go.Proofs.YtehbfpcfbpbllaaGreatDoor.VM
