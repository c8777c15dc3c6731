/- Hk DpEnv VmX VmK VmU VmV VmT VkA VkB VkC -/
import Derived.Test.YtbchdlelmkmagaaGreatDoorMg3
namespace Go.Proofs.YtbchdlelmkmagaaGreatDoor
namespace VM
open Go Go.RowKit
set_option linter.unusedVariables false
set_option linter.unusedSectionVars false
set_option maxRecDepth 20000
noncomputable section
abbrev Hook := List V → Hp → Option (V × Hp)
def hooksOf : List (Nat × Hook) → Nat → Option Hook
 | [], _ => none
 | p :: r, f => bif Nat.beq f p.1 then some p.2 else hooksOf r f
section
variable [Sy]
def HookOK (f : Nat) (g : Hook) : Prop :=
 ∀ (N : Nat) (al : List V) (h : Hp) (v : V) (h' : Hp), g al h = some (v, h') → ∀ (σ : Mp) (w : World) (xs : List Value), Rel N σ h w → RepL σ al xs →
  match (callFunc f xs.toArray).run Tryz.prog w with
  | .ok (.value x) w' => Does N σ h w v h' x w'
  | .ok (.enter g ys) w' => Calls Tryz.prog g ys w' fun e w'' => ∃ x, e = .returned x ∧ Does N σ h w v h' x w''
  | _ => False
theorem hooksOf_ok : ∀ {l : List (Nat × Hook)}, (∀ p ∈ l, HookOK p.1 p.2) → ∀ {f : Nat} {g : Hook}, hooksOf l f = some g → HookOK f g
 | [], _, _, _, h => by cases h
 | p :: r, hl, f, g, h => by
  rw [hooksOf] at h
  cases hb : Nat.beq f p.1 with
  | true =>
   rw [hb] at h
   cases h
   rw [Nat.eq_of_beq_eq_true hb]
   exact hl p (List.mem_cons_self ..)
  | false =>
   rw [hb] at h
   exact hooksOf_ok (fun q hq => hl q (List.mem_cons_of_mem _ hq)) h
theorem enter_of {f : Nat} {fn : Func} (hf : Tryz.prog.funcs[f]? = some fn) (hb : fn.body.isNone = false) (args : Array Value) (w : World) : (callFunc f args).run Tryz.prog w = .ok (.enter f args) w := by
 unfold callFunc
 simp only [Sem.run_bind, run_program, Result.andThen_ok, hf, nameOK f fn hf, Bool.false_eq_true, if_false, hb, Sem.run_pure]
theorem envOK_so (P : Program) (hook : Nat → Option (List V → Hp → Option (V × Hp))) (idle : Nat → List V → Bool) (so : SOp → List V → Option V) (hm : P.follows .mixedOrders = true) (hs : SopOK (Env.of P hook idle so)) (ha : ∀ j off t v, so (.arg j off t) [] = some v → ∀ w : World, (∀ p ∈ Sy.tab, w.heap[p.1]? = some p.2) → ∃ x, (loadVar t ⟨(Sy.pl j).1, (Sy.pl j).2 + off, none⟩).run P w = .ok x w ∧ ∀ σ, Rep σ v x) (hg : ∀ g off t v, so (.glob g off t) [] = some v → ∀ w : World, (∀ p ∈ Sy.tab, w.heap[p.1]? = some p.2) → ∃ x, (loadVar t ⟨g, off, none⟩).run P w = .ok x w ∧ ∀ σ, Rep σ v x) : EnvOK P (Env.of P hook idle so) :=
 ⟨fun t i h => ofL_range (tiOf P) _ t i h, fun f fn h => ofL_all P.funcs f fn h, hm, hs, ha, hg⟩
theorem hook_of {f : Nat} {fn : Func} (hf : Tryz.prog.funcs[f]? = some fn) (hb : fn.body.isNone = false) {N : Nat} {σ : Mp} {h : Hp} {w : World} {xs : List Value} {v : V} {X : Value} (R : Rel N σ h w) (hr : Rep σ v X)
  (hc : Calls Tryz.prog f xs.toArray w fun e w' => e = .returned X ∧ Below w.heap.size w w') :
  match (callFunc f xs.toArray).run Tryz.prog w with
  | .ok (.value x) w' => Does N σ h w v h x w'
  | .ok (.enter g ys) w' => Calls Tryz.prog g ys w' fun e w'' => ∃ x, e = .returned x ∧ Does N σ h w v h x w''
  | _ => False := by
 rw [enter_of hf hb]
 refine hc.mono ?_
 rintro e w' ⟨rfl, hb⟩
 exact ⟨X, rfl, Does.stay hr (R.world hb) (hb.mono R.base) (Nat.le_refl _)⟩
theorem memos_ok {f : Nat} {ms : List Memo} (h : ∀ m ∈ ms, MemoOK Tryz.prog f m) : HookOK f (memoH ms) := fun N al h' v h2 hc σ w xs R hr => memoH_sound h N al h' v h2 hc σ w xs R hr
theorem idxH_ok : HookOK 300 idxH := fun N al h v h' hc => @hooksOK _ 300 idxH rfl N al h v h' hc
end
def cntB : List Nat → Nat → Nat
 | [], _ => 0
 | b :: r, c => bif Nat.beq b c then Nat.succ (cntB r c) else cntB r c
def cntH (xs : List V) (h : Hp) : Option (V × Hp) := match xs with | [.str s, .int .u8 (.ofNat c)] => bif Nat.blt c 256 then some (mkInt .i64 (.ofNat (cntB s c)), h) else none | _ => none
theorem cntB_eq : ∀ (s : List Nat) (c : Nat), (∀ b ∈ s, b < 256) → c < 256 → cntB s c = Lib.countByte (s.map Nat.toUInt8) c.toUInt8
 | [], c, _, _ => rfl
 | b :: r, c, hs, hc => by
  have ih := cntB_eq r c (fun x hx => hs x (by simp [hx])) hc
  have hb := hs b (by simp)
  unfold Lib.countByte at ih ⊢
  have e : (b.toUInt8 == c.toUInt8) = Nat.beq b c := by
   rw [Bool.eq_iff_iff, beq_iff_eq, Nat.beq_eq]
   constructor
   ·intro h
    have := congrArg UInt8.toNat h
    simp at this
    omega
   ·rintro rfl; rfl
  rw [cntB, ih, List.map_cons, List.count_cons, e]
  cases Nat.beq b c <;> simp
section
variable [Sy]
theorem cntH_ok : HookOK 293 cntH := by
 intro N al h v h' hc σ w xs R hr
 unfold cntH at hc
 split at hc
 ·rename_i s c
  cases hb : Nat.blt c 256 with
  | false => rw [hb] at hc; cases hc
  | true =>
   rw [hb] at hc
   cases hc
   have hc2 : c < 256 := by simpa [Nat.blt_eq] using hb
   cases hr with | cons _ x _ y r1 r2 =>
   cases r2 with | cons _ x2 _ y2 r3 r4 =>
   cases r4
   cases r1 with | str _ hs =>
   cases r3
   rw [run_callFunc_extern Tryz.func293 (by kernel_rfl) (by kernel_rfl) (by kernel_rfl) (e := Extern.BytealgCount.count) (by kernel_rfl), Lib.run_countString]
   refine Does.stay ?_ R (Below.refl _ _) (Nat.le_refl _)
   rw [mkInt_eq]
   have e : cntB s c = Lib.countByte (bytesOf s).data.toList (Int.ofNat c).toNat.toUInt8 := by
    rw [cntB_eq s c hs hc2]
    show _ = Lib.countByte (s.map Nat.toUInt8) c.toUInt8
    rfl
   rw [e]
   exact Rep.int _ _
 ·cases hc
end
def globs : List (Nat × TypeId) := [(0, 116)]
def soG (gl : List (Nat × TypeId)) (o : SOp) (al : List V) : Option V :=
 match o with
 | .glob g off t => bif Nat.beq off 0 && memG gl g t then some .any else none
 | _ => none
end
end VM
end Go.Proofs.YtbchdlelmkmagaaGreatDoor
namespace Go.Proofs.YtbchdlelmkmagaaGreatDoor
namespace VM
open Go Go.RowKit
set_option linter.unusedVariables false
set_option linter.unusedSectionVars false
set_option maxRecDepth 20000
noncomputable section
def hkB : List (Nat × Hook) := [(300, idxH), (293, cntH)]
def Ed : Env := Env.of Tryz.prog (hooksOf hkB) idles (soG globs)
section
variable [Sy]
theorem idleD : IdleOK Tryz.prog Ed := @idleOK _
theorem hkB_ok : ∀ p ∈ hkB, HookOK p.1 p.2 := fun p hp => by
 simp only [hkB, List.mem_cons, List.not_mem_nil, or_false] at hp
 rcases hp with rfl | rfl
 ·exact idxH_ok
 ·exact cntH_ok
theorem hooksD : HooksOK Tryz.prog Ed := by
 intro f g hg
 exact hooksOf_ok (l := hkB) hkB_ok hg
theorem soG_ok (hg : GlobOK Tryz.prog Sy.tab globs) (hook : Nat → Option (List V → Hp → Option (V × Hp))) (idle : Nat → List V → Bool) : EnvOK Tryz.prog (Env.of Tryz.prog hook idle (soG globs)) := by
 refine envOK_so _ _ _ _ (by kernel_rfl) ⟨fun _ _ _ _ h => (by cases h), fun _ _ _ h => (by cases h), fun _ _ _ _ h => (by cases h), fun _ _ h => (by cases h), fun _ _ _ _ h => (by cases h), fun _ _ h => (by cases h), fun _ _ h => (by cases h), fun _ _ _ h => (by cases h), fun _ _ _ h => (by cases h)⟩ (fun _ _ _ _ h => (by cases h)) ?_
 intro g off t v h w hw
 simp only [soG] at h
 cases hq : (Nat.beq off 0 && memG globs g t) with
 | false => rw [hq] at h; cases h
 | true =>
  rw [hq] at h
  cases h
  simp only [Bool.and_eq_true, Nat.beq_eq] at hq
  obtain ⟨rfl, h2⟩ := hq
  obtain ⟨x, h3, h4⟩ := hg _ (memG_in h2) w hw
  exact ⟨x, h3, fun σ => .any x h4⟩
theorem envD (hg : GlobOK Tryz.prog Sy.tab globs) : EnvOK Tryz.prog Ed := soG_ok hg _ _
end
end
end VM
end Go.Proofs.YtbchdlelmkmagaaGreatDoor
namespace Go.Proofs.YtbchdlelmkmagaaGreatDoor.VM
open Go
noncomputable section
def CallF.le (f g : CallF) : Prop := ∀ a b c r, f a b c = some r → g a b c = some r
section
variable {E : Env} {f g : CallF}
theorem onNx_mono (hle : CallF.le f g) {s : St} {dst : Option Tmp} {r : R} {x : St} (h : onNx f s dst r = some x) : onNx g s dst r = some x := by
 unfold onNx at h ⊢
 split at h <;> first | exact h | skip
 rw [Option.bind_eq_some_iff] at h ⊢
 obtain ⟨p, h1, h2⟩ := h
 exact ⟨p, hle _ _ _ _ h1, h2⟩
theorem eStep_mono (hle : CallF.le f g) {ops : List Oper} {o : Oper} {s x : St} (h : eStep E f ops o s = some x) : eStep E g ops o s = some x := by
 unfold eStep at h ⊢
 rw [Option.bind_eq_some_iff] at h ⊢
 obtain ⟨w, h1, h2⟩ := h
 refine ⟨w, h1, ?_⟩
 cases w with
 | true => exact onNx_mono hle h2
 | false => exact h2
theorem opStep_mono (hle : CallF.le f g) {ops : List Oper} {o : Oper} {s x : St} (h : opStep E f ops o s = some x) : opStep E g ops o s = some x := by
 unfold opStep at h ⊢
 cases hE : isE o.op with
 | true => rw [hE] at h; exact eStep_mono hle h
 | false => rw [hE] at h; exact h
theorem opsRun_mono (hle : CallF.le f g) {ops : List Oper} : ∀ {l : List Oper} {s x : St}, opsRun E f ops l s = some x → opsRun E g ops l s = some x
 | [], _, _, h => h
 | o :: l, s, x, h => by
  rw [opsRun] at h ⊢
  cases h1 : opStep E f ops o s with
  | none => rw [h1] at h; cases h
  | some s' => rw [h1] at h; rw [opStep_mono hle h1]; exact opsRun_mono hle h
theorem planRun_mono (hle : CallF.le f g) {ops : List Oper} : ∀ {l : List PStep} {pd : List (Nat × Oper × PR)} {s x : St}, planRun E f ops l pd s = some x → planRun E g ops l pd s = some x
 | [], _, _, _, h => h
 | .n i o :: l, pd, s, x, h => by
  rw [planRun] at h ⊢
  cases h1 : nStep E ops o s with
  | none => rw [h1] at h; cases h
  | some p =>
   rw [h1] at h
   simp only at h ⊢
   cases h2 : s.take o.dst p with
   | none => rw [h2] at h; cases h
   | some s' =>
    rw [h2] at h
    simp only at h ⊢
    cases h3 : stillAll E s' pd p with
    | false => rw [h3] at h; cases h
    | true => rw [h3] at h; exact planRun_mono hle h
 | .e i o m :: l, pd, s, x, h => by
  rw [planRun] at h ⊢
  cases h1 : eStep E f ops o s with
  | none => rw [h1] at h; cases h
  | some s' =>
   rw [h1] at h
   rw [eStep_mono hle h1]
   simp only at h ⊢
   cases h3 : (pd.filter fun p => !Nat.testBit m p.1).all (still E s') with
   | false => rw [h3] at h; cases h
   | true => rw [h3] at h; exact planRun_mono hle h
theorem regRun_mono (hle : CallF.le f g) {ops : List Oper} {d : Bool} {s x : St} (h : regRun E f ops d s = some x) : regRun E g ops d s = some x := by
 cases d with
 | false => exact opsRun_mono hle h
 | true =>
  rw [regRun] at h ⊢
  cases h1 : planOf ops with
  | none => rw [h1] at h; cases h
  | some p => rw [h1] at h; exact planRun_mono hle h
theorem finOf_some {fn : Func} {r : Option (Ex × St)} {x : V × Hp} (h : finOf E fn r = some x) : ∃ p, r = some p := by
 cases r with
 | none => cases h
 | some p => exact ⟨p, rfl⟩
theorem callOf_mono {a b : Code → St → Option (Ex × St)} (hle : ∀ c s r, a c s = some r → b c s = some r) : CallF.le (callOf E a) (callOf E b) := by
 intro k al h r hr
 unfold callOf at hr ⊢
 split at hr
 ·exact hr
 ·split at hr
  ·unfold callFn at hr ⊢
   split at hr
   ·cases hr
   ·rename_i fn _ _ c _
    cases hb : Nat.ble al.length fn.ntmps with
    | false => rw [hb] at hr; cases hr
    | true =>
     rw [hb] at hr
     simp only [cond_true] at hr ⊢
     obtain ⟨p, hp⟩ := finOf_some hr
     rw [hle _ _ _ hp, ← hp]
     exact hr
  ·cases hr
theorem exec_mono : ∀ (n : Nat) (c : Code) (s : St) (r : Ex × St), exec E n c s = some r → exec E (n + 1) c s = some r
 | 0, _, _, _, h => by cases h
 | n + 1, c, s, r, h => by
  have ih := exec_mono n
  cases c <;> first | exact h | (cases h; done) | skip
  case region id ops d =>
   change ndRegion (regRun E (callOf E (exec E n)) ops.toList d s) = some r at h
   show ndRegion (regRun E (callOf E (exec E (n + 1))) ops.toList d s) = some r
   cases h1 : regRun E (callOf E (exec E n)) ops.toList d s with
   | none => rw [h1] at h; cases h
   | some s' => rw [h1] at h; rw [regRun_mono (callOf_mono ih) h1]; exact h
  case seq a b =>
   change ndNormal (exec E n b) (exec E n a s) = some r at h
   show ndNormal (exec E (n + 1) b) (exec E (n + 1) a s) = some r
   cases h1 : exec E n a s with
   | none => rw [h1] at h; cases h
   | some p =>
    obtain ⟨e, s'⟩ := p
    rw [h1] at h
    rw [ih _ _ _ h1]
    cases e <;> first | exact ih _ _ _ h | exact h
  case cond c a b =>
   change ndCond (fun _ => exec E n a s) (fun _ => exec E n b s) (ev s.t c) = some r at h
   show ndCond (fun _ => exec E (n + 1) a s) (fun _ => exec E (n + 1) b s) (ev s.t c) = some r
   generalize ev s.t c = v at h ⊢
   unfold ndCond at h ⊢
   split at h <;> first | exact ih _ _ _ h | cases h
  case block id c =>
   change ndBlock id (exec E n c s) = some r at h
   show ndBlock id (exec E (n + 1) c s) = some r
   cases h1 : exec E n c s with
   | none => rw [h1] at h; cases h
   | some p => rw [h1] at h; rw [ih _ _ _ h1]; exact h
  case loop c =>
   change ndNormal (exec E n (.loop c)) (exec E n c s) = some r at h
   show ndNormal (exec E (n + 1) (.loop c)) (exec E (n + 1) c s) = some r
   cases h1 : exec E n c s with
   | none => rw [h1] at h; cases h
   | some p =>
    obtain ⟨e, s'⟩ := p
    rw [h1] at h
    rw [ih _ _ _ h1]
    cases e <;> first | exact ih _ _ _ h | exact h
theorem exec_le {n m : Nat} (h : n ≤ m) {c : Code} {s : St} {r : Ex × St} (hr : exec E n c s = some r) : exec E m c s = some r := by
 induction h with
 | refl => exact hr
 | step _ ih => exact exec_mono _ _ _ _ ih
theorem callx_le {n m : Nat} (h : n ≤ m) : CallF.le (callOf E (exec E n)) (callOf E (exec E m)) := callOf_mono fun _ _ _ hr => exec_le h hr
def Xs (E : Env) (c : Code) (s : St) (r : Ex × St) : Prop := ∃ n, exec E n c s = some r
def Cs (E : Env) (f : Nat) (al : List V) (h : Hp) (r : V × Hp) : Prop := ∃ n, callOf E (exec E n) f al h = some r
def onNxs (E : Env) (s : St) (dst : Option Tmp) (r : R) (x : St) : Prop :=
 match r with
 | some (.enter f xs, h) => ∃ p, Cs E f xs h p ∧ s.put dst p.1 p.2 = some x
 | r => onNx (fun _ _ _ => none) s dst r = some x
theorem onNxs_some {s : St} {dst : Option Tmp} {r : R} {x : St} (h : onNxs E s dst r x) : ∃ n, onNx (callOf E (exec E n)) s dst r = some x := by
 unfold onNxs at h
 split at h
 ·obtain ⟨p, ⟨n, h1⟩, h2⟩ := h
  exact ⟨n, by rw [onNx, h1]; exact h2⟩
 ·exact ⟨0, onNx_mono (fun _ _ _ _ h => by cases h) h⟩
theorem Xs.skip (s : St) : Xs E .skip s (.normal, s) := ⟨1, rfl⟩
theorem Xs.exit (id : Nat) (s : St) : Xs E (.exit id) s (.exit id, s) := ⟨1, rfl⟩
theorem Xs.ret (s : St) : Xs E .ret s (.ret, s) := ⟨1, rfl⟩
theorem Xs.seq {a b : Code} {s s1 : St} {r : Ex × St} (h1 : Xs E a s (.normal, s1)) (h2 : Xs E b s1 r) : Xs E (.seq a b) s r := by
 obtain ⟨n, h1⟩ := h1
 obtain ⟨m, h2⟩ := h2
 exact ⟨max n m + 1, by show ndNormal (exec E _ b) (exec E _ a s) = _; rw [exec_le (Nat.le_max_left n m) h1]; exact exec_le (Nat.le_max_right n m) h2⟩
theorem Xs.seq_stop {a b : Code} {s s1 : St} {e : Ex} (h1 : Xs E a s (e, s1)) (he : e ≠ .normal) : Xs E (.seq a b) s (e, s1) := by
 obtain ⟨n, h1⟩ := h1
 exact ⟨n + 1, by show ndNormal (exec E _ b) (exec E _ a s) = _; rw [h1]; cases e <;> first | rfl | exact absurd rfl he⟩
theorem Xs.cond {c : Operand} {a b : Code} {s : St} {r : Ex × St} {v : Bool} (hv : ev s.t c = some (.bool v)) (h : Xs E (bif v then a else b) s r) : Xs E (.cond c a b) s r := by
 obtain ⟨n, h⟩ := h
 exact ⟨n + 1, by show ndCond (fun _ => exec E n a s) (fun _ => exec E n b s) (ev s.t c) = _; rw [hv]; cases v <;> exact h⟩
theorem Xs.block {id : Nat} {c : Code} {s s1 : St} {e : Ex} (h : Xs E c s (e, s1)) : Xs E (.block id c) s (match e with | .exit j => bif Nat.beq j id then (.normal, s1) else (.exit j, s1) | e => (e, s1)) := by
 obtain ⟨n, h⟩ := h
 refine ⟨n + 1, ?_⟩
 show ndBlock id (exec E n c s) = _
 rw [h]
 cases e with
 | exit j => simp only [ndBlock]; cases Nat.beq j id <;> rfl
 | normal => rfl
 | ret => rfl
theorem Xs.loop {c : Code} {s s1 : St} {r : Ex × St} (h1 : Xs E c s (.normal, s1)) (h2 : Xs E (.loop c) s1 r) : Xs E (.loop c) s r := by
 obtain ⟨n, h1⟩ := h1
 obtain ⟨m, h2⟩ := h2
 exact ⟨max n m + 1, by show ndNormal (exec E _ (.loop c)) (exec E _ c s) = _; rw [exec_le (Nat.le_max_left n m) h1]; exact exec_le (Nat.le_max_right n m) h2⟩
theorem Xs.loop_stop {c : Code} {s s1 : St} {e : Ex} (h1 : Xs E c s (e, s1)) (he : e ≠ .normal) : Xs E (.loop c) s (e, s1) := by
 obtain ⟨n, h1⟩ := h1
 exact ⟨n + 1, by show ndNormal (exec E _ (.loop c)) (exec E _ c s) = _; rw [h1]; cases e <;> first | rfl | exact absurd rfl he⟩
theorem Xs.region {id : Nat} {ops : Array Oper} {d : Bool} {s s1 : St} (h : ∃ n, regRun E (callOf E (exec E n)) ops.toList d s = some s1) : Xs E (.region id ops d) s (.normal, s1) := by
 obtain ⟨n, h⟩ := h
 exact ⟨n + 1, by show ndRegion (regRun E (callOf E (exec E n)) ops.toList d s) = _; rw [h]; rfl⟩
theorem Cs.of {f : Nat} {fn : Func} {c : Code} {al : List V} {h : Hp} {p : Ex × St} {r : V × Hp} (hk : E.hook f = none) (hf : E.fn.get f = some fn) (hb : fn.body = some c) (hl : al.length ≤ fn.ntmps)
  (hx : Xs E c ⟨T.ofL (al.map some) 0 .leaf, h, [], fn.ntmps⟩ p) (he : finOf E fn (some p) = some r) : Cs E f al h r := by
 obtain ⟨n, hx⟩ := hx
 refine ⟨n, ?_⟩
 unfold callOf
 rw [hk, hf]
 simp only [callFn, hb, Nat.ble_eq_true_of_le hl, cond_true, hx, he]
theorem Cs.hook {f : Nat} {g : List V → Hp → Option (V × Hp)} {al : List V} {h : Hp} {r : V × Hp} (hk : E.hook f = some g) (hg : g al h = some r) : Cs E f al h r := ⟨0, by unfold callOf; rw [hk]; exact hg⟩
theorem ops_cons {ops : List Oper} {o : Oper} {l : List Oper} {s s1 s2 : St} (h1 : ∃ n, opStep E (callOf E (exec E n)) ops o s = some s1) (h2 : ∃ n, opsRun E (callOf E (exec E n)) ops l s1 = some s2) : ∃ n, opsRun E (callOf E (exec E n)) ops (o :: l) s = some s2 := by
 obtain ⟨n, h1⟩ := h1
 obtain ⟨m, h2⟩ := h2
 exact ⟨max n m, by rw [opsRun, opStep_mono (callx_le (Nat.le_max_left n m)) h1]; exact opsRun_mono (callx_le (Nat.le_max_right n m)) h2⟩
theorem plan_n {ops : List Oper} {o : Oper} {i : Nat} {l : List PStep} {pd : List (Nat × Oper × PR)} {s s1 s2 : St} {p : PR} (h1 : nStep E ops o s = some p) (h2 : s.take o.dst p = some s1) (h3 : stillAll E s1 pd p = true)
  (h4 : ∃ n, planRun E (callOf E (exec E n)) ops l ((i, o, p) :: pd) s1 = some s2) : ∃ n, planRun E (callOf E (exec E n)) ops (.n i o :: l) pd s = some s2 := by
 obtain ⟨n, h4⟩ := h4
 exact ⟨n, by rw [planRun, h1]; simp only; rw [h2]; simp only; rw [h3]; exact h4⟩
theorem plan_e {ops : List Oper} {o : Oper} {i m : Nat} {l : List PStep} {pd : List (Nat × Oper × PR)} {s s1 s2 : St} (h1 : ∃ n, eStep E (callOf E (exec E n)) ops o s = some s1) (h3 : (pd.filter fun p => !Nat.testBit m p.1).all (still E s1) = true)
  (h4 : ∃ n, planRun E (callOf E (exec E n)) ops l (pd.filter fun p => !Nat.testBit m p.1) s1 = some s2) : ∃ n, planRun E (callOf E (exec E n)) ops (.e i o m :: l) pd s = some s2 := by
 obtain ⟨n, h1⟩ := h1
 obtain ⟨k, h4⟩ := h4
 refine ⟨max n k, ?_⟩
 rw [planRun, eStep_mono (callx_le (Nat.le_max_left n k)) h1]
 simp only
 rw [h3]
 exact planRun_mono (callx_le (Nat.le_max_right n k)) h4
end
end
end Go.Proofs.YtbchdlelmkmagaaGreatDoor.VM
namespace Go.Proofs.YtbchdlelmkmagaaGreatDoor.VM
open Go
noncomputable section
abbrev Sl := List V
abbrev u0 : V := .tup []
abbrev Dl := List (Nat × List V)
def nth (s : Sl) : Nat → V :=
 List.rec (motive := fun _ => Nat → V) (fun _ => undefV) (fun v _ ih n => Nat.rec (motive := fun _ => V) v (fun n _ => ih n) n) s
theorem nth_zero (v : V) (l : Sl) : nth (v :: l) 0 = v := rfl
theorem nth_succ (v : V) (l : Sl) (n : Nat) : nth (v :: l) (n + 1) = nth l n := rfl
def setK (w : V) (s : Sl) : Nat → (Sl → Prop) → Prop :=
 List.rec (motive := fun _ => Nat → (Sl → Prop) → Prop) (fun _ _ => False) (fun v l ih n => Nat.rec (motive := fun _ => (Sl → Prop) → Prop) (fun k => k (w :: l)) (fun n _ k => ih n fun l' => k (v :: l')) n) s
theorem setK_zero (w v : V) (l : Sl) (k : Sl → Prop) : setK w (v :: l) 0 k = k (w :: l) := rfl
theorem setK_succ (w v : V) (l : Sl) (n : Nat) (k : Sl → Prop) : setK w (v :: l) (n + 1) k = setK w l n fun l' => k (v :: l') := rfl
structure Pr where
 pick : V → Option V → Option V → (V → Prop) → Prop
 build : Nat → List (Nat × V) → (V → Prop) → Prop
 load : Hp → Nat → V → (V → Prop) → Prop
 nilc : V → (V → Prop) → Prop
 bin : BinOp → Nat → Bool → Bool → V → V → (V → Prop) → Prop
 un : UnOp → V → (V → Prop) → Prop
 conv : Hp → Nat → Nat → V → (V → Prop) → Prop
 iface : Nat → V → (V → Prop) → Prop
 slice : Nat → V → Option V → Option V → Option V → (V → Prop) → Prop
 faddr : Nat → V → Nat → (V → Prop) → Prop
 field : Nat → V → Nat → (V → Prop) → Prop
 iaddr : Nat → V → V → (V → Prop) → Prop
 index : Nat → V → V → (V → Prop) → Prop
 look : Hp → Nat → V → V → Bool → (V → Prop) → Prop
 assert : V → Nat → Bool → (V → Prop) → Prop
 extr : V → Nat → (V → Prop) → Prop
 lbui : Hp → Array TypeId → Builtin → List V → (V → Prop) → Prop
 alloc : Hp → Nat → (V → Hp → Blk → Prop) → Prop
 box : Hp → Nat → V → (V → Hp → Blk → Prop) → Prop
 bsl : Hp → Nat → Nat → List (Nat × V) → (V → Hp → Blk → Prop) → Prop
 mkmap : Hp → Bool → (V → Hp → Blk → Prop) → Prop
 mksl : Hp → Nat → V → V → (V → Hp → Blk → Prop) → Prop
 fconv : Hp → Nat → Nat → V → (V → Hp → Blk → Prop) → Prop
 store : Hp → Nat → V → V → (Hp → Prop) → Prop
 mapu : Hp → Nat → V → V → V → (Hp → Prop) → Prop
 mape : Hp → Nat → V → V → (V → Hp → Prop) → Prop
 ests : Hp → V → V → V → (Hp → Prop) → Prop
 ebui : Hp → Array TypeId → Builtin → List V → (V → Hp → Prop) → Prop
 call : Nat → List V → Hp → (V → Hp → Prop) → Prop
 callv : V → List V → Hp → (V → Hp → Prop) → Prop
 invk : V → String → List V → Hp → (V → Hp → Prop) → Prop
 dfr : V → List V → (Nat × List V → Prop) → Prop
 cond : V → (Unit → Prop) → (Unit → Prop) → Prop
 gval : V → Bool → ((V → Prop) → Prop) → (V → Prop) → Prop
 geff : V → Bool → ((V → Hp → Prop) → Prop) → Hp → (V → Hp → Prop) → Prop
 gchk : V → Bool → (Prop → Prop) → Prop → Prop
 same : V → V → Prop → Prop
 sameb : Hp → Nat → Blk → Prop → Prop
 idle : Dl → Prop → Prop
def evL (s : Sl) : Operand → Option V
 | .tmp i => some (nth s i)
 | .const v => ofVal v
 | .global g => some (.gptr g 0)
 | .func f => some (.fn (.func f) [] [])
def evK (s : Sl) (x : Operand) (k : V → Prop) : Prop :=
 match evL s x with
 | some v => k v
 | none => False
def evsK (s : Sl) : List Operand → (List V → Prop) → Prop
 | [], k => k []
 | x :: r, k => evK s x fun v => evsK s r fun l => k (v :: l)
def evoK (s : Sl) (x : Option Operand) (k : Option V → Prop) : Prop :=
 match x with
 | none => k none
 | some x => evK s x fun v => k (some v)
def partsK (s : Sl) : List (Nat × Operand) → (List (Nat × V) → Prop) → Prop
 | [], k => k []
 | (i, x) :: r, k => evK s x fun v => partsK s r fun l => k ((i, v) :: l)
def putK (s : Sl) (dst : Option Tmp) (v : V) (k : Sl → Prop) : Prop :=
 match dst with
 | none => k s
 | some i => setK v s i k
section
variable (p : Pr) (E : Env)
def lopK (s : Sl) (h : Hp) (op : Op) (k : V → Prop) : Prop :=
 match op with
 | .move x => evK s x k
 | .pick c a b => evK s c fun c => p.pick c (evL s a) (evL s b) k
 | .build ty ps => partsK s ps.toList fun l => p.build ty l k
 | .load ty a => evK s a fun a => p.load h ty a k
 | .nilCheck x => evK s x fun x => p.nilc x k
 | .binOp op ty x y _ => evK s x fun a => evK s y fun b => p.bin op ty (isConstO x) (isConstO y) a b k
 | .unOp op _ x => evK s x fun x => p.un op x k
 | .convert a d x => evK s x fun x => p.conv h a d x k
 | .makeInterface ty x => evK s x fun x => p.iface ty x k
 | .makeFunc f a c => evsK s a.toList fun a => evsK s c.toList fun c => k (.fn f a c)
 | .slice ty x lo hi mx => evK s x fun x => evoK s lo fun lo => evoK s hi fun hi => evoK s mx fun mx => p.slice ty x lo hi mx k
 | .fieldAddr ty x f => evK s x fun x => p.faddr ty x f k
 | .field ty x f => evK s x fun x => p.field ty x f k
 | .indexAddr ty x i => evK s x fun x => evK s i fun i => p.iaddr ty x i k
 | .index ty x i => evK s x fun x => evK s i fun i => p.index ty x i k
 | .lookup ty x q ok => evK s x fun x => evK s q fun q => p.look h ty x q ok k
 | .typeAssert x _ a ok => evK s x fun x => p.assert x a ok k
 | .extract x i => evK s x fun x => p.extr x i k
 | .call c => match c.callee with
  | .builtin b => evsK s c.args.toList fun al => p.lbui h c.argTypes b al k
  | _ => False
 | _ => False
def isSlT (d : TypeId) : Bool :=
 match E.ty.get d with
 | some i => (match i.k with | .sl _ => true | _ => false)
 | none => false
def isF (op : Op) : Bool :=
 match op with
 | .alloc _ | .box .. | .buildSlice .. | .makeMap .. | .makeSlice .. => true
 | .convert _ d _ => isSlT E d
 | _ => false
def fopK (s : Sl) (h : Hp) (op : Op) (k : V → Hp → Blk → Prop) : Prop :=
 match op with
 | .alloc e => p.alloc h e k
 | .box e x => evK s x fun x => p.box h e x k
 | .buildSlice ty n ps => partsK s ps.toList fun l => p.bsl h ty n l k
 | .makeMap _ r => p.mkmap h r.isNone k
 | .makeSlice ty l c => evK s l fun l => evK s c fun c => p.mksl h ty l c k
 | .convert a d x => evK s x fun x => p.fconv h a d x k
 | _ => False
def callK (s : Sl) (h : Hp) (c : Call) (k : V → Hp → Prop) : Prop :=
 evsK s c.args.toList fun al => match c.callee with
 | .value (.func f) => p.call f al h k
 | .value f => evK s f fun f => p.callv f al h k
 | .invoke r n => evK s r fun r => p.invk r n al h k
 | .builtin b => p.ebui h c.argTypes b al k
def effK (s : Sl) (h : Hp) (op : Op) (k : V → Hp → Prop) : Prop :=
 match op with
 | .assign x => evK s x fun x => k x h
 | .store ty a x => evK s a fun a => evK s x fun x => p.store h ty a x fun h' => k undefV h'
 | .mapUpdate ty m q x => evK s m fun m => evK s q fun q => evK s x fun x => p.mapu h ty m q x fun h' => k undefV h'
 | .insert ty m q x => evK s m fun m => evK s q fun q => evK s x fun x => p.mapu h ty m q x fun h' => k undefV h'
 | .mapEntry ty m q => evK s m fun m => evK s q fun q => p.mape h ty m q k
 | .entryStore _ m q x => evK s m fun m => evK s q fun q => evK s x fun x => p.ests h m q x fun h' => k undefV h'
 | .call c => callK p s h c k
 | _ => False
def guardOf (ops : List Oper) : Option (Nat × Bool) → Option (Option (Nat × Bool))
 | none => some none
 | some (j, w) => match ops[j]? with
  | some o => (match o.dst with | some g => some (some (g, w)) | none => none)
  | none => none
def opK (ops : List Oper) (o : Oper) (s : Sl) (h : Hp) (d : Dl) (k : Sl → Hp → Dl → Prop) : Prop :=
 match guardOf ops o.guard with
 | none => False
 | some none => (match o.op with
  | .defer c => (match c.callee with
   | .value f => evsK s c.args.toList fun al => evK s f fun f => p.dfr f al fun x => putK s o.dst undefV fun s' => k s' h (x :: d)
   | _ => False)
  | op => bif isE op then effK p s h op fun v h' => putK s o.dst v fun s' => k s' h' d
   else bif isF E op then fopK p s h op fun v h' _ => putK s o.dst v fun s' => k s' h' d
   else lopK p s h op fun v => putK s o.dst v fun s' => k s' h d)
 | some (some (g, w)) => bif isE o.op then p.geff (nth s g) w (fun k' => effK p s h o.op k') h fun v h' => putK s o.dst v fun s' => k s' h' d
   else bif isF E o.op then p.geff (nth s g) w (fun k' => fopK p s h o.op fun v h' _ => k' v h') h fun v h' => putK s o.dst v fun s' => k s' h' d
   else p.gval (nth s g) w (fun k' => lopK p s h o.op k') fun v => putK s o.dst v fun s' => k s' h d
def opsK (ops l : List Oper) : Sl → Hp → Dl → (Sl → Hp → Dl → Prop) → Prop :=
 List.rec (motive := fun _ => Sl → Hp → Dl → (Sl → Hp → Dl → Prop) → Prop) (fun s h d k => k s h d) (fun o _ ih s h d k => opK p E ops o s h d fun s' h' d' => ih s' h' d' k) l
theorem opsK_cons (ops : List Oper) (o : Oper) (l : List Oper) (s : Sl) (h : Hp) (d : Dl) (k : Sl → Hp → Dl → Prop) : opsK p E ops (o :: l) s h d k = opK p E ops o s h d fun s' h' d' => opsK p E ops l s' h' d' k := rfl
inductive PRk where
 | skip
 | l (v : V)
 | f (id : Nat) (b : Blk)
 | g (b : V) (w : Bool) (v : V)
def nK (ops : List Oper) (o : Oper) (s : Sl) (h : Hp) (k : PRk → V → Hp → Prop) : Prop :=
 match guardOf ops o.guard with
 | none => False
 | some none => bif isF E o.op then fopK p s h o.op fun v h' b => k (.f h.n b) v h' else lopK p s h o.op fun v => k (.l v) v h
 | some (some (g, w)) => bif isF E o.op then p.cond (nth s g)
   (fun _ => bif w then fopK p s h o.op fun v h' b => k (.f h.n b) v h' else k .skip undefV h)
   (fun _ => bif w then k .skip undefV h else fopK p s h o.op fun v h' b => k (.f h.n b) v h')
  else p.gval (nth s g) w (fun k' => lopK p s h o.op k') fun v => k (.g (nth s g) w v) v h
def eK (ops : List Oper) (o : Oper) (s : Sl) (h : Hp) (k : V → Hp → Prop) : Prop :=
 match guardOf ops o.guard with
 | none => False
 | some none => effK p s h o.op k
 | some (some (g, w)) => p.geff (nth s g) w (fun k' => effK p s h o.op k') h k
def reK (s : Sl) (h : Hp) (x : Nat × Oper × PRk) (k : Prop) : Prop :=
 match x.2.2 with
 | .skip => k
 | .l v => bif readsM x.2.1.op then lopK p s h x.2.1.op fun u => p.same u v k else k
 | .f id b => p.sameb h id b k
 | .g b w v => bif readsM x.2.1.op then p.gchk b w (fun k' => lopK p s h x.2.1.op fun u => p.same u v k') k else k
def reAll (s : Sl) (h : Hp) (l : List (Nat × Oper × PRk)) : Prop → Prop :=
 List.rec (motive := fun _ => Prop → Prop) (fun k => k) (fun x _ ih k => reK p s h x (ih k)) l
def leftK (m : Nat) (l : List (Nat × Oper × PRk)) : (List (Nat × Oper × PRk) → Prop) → Prop :=
 List.rec (motive := fun _ => (List (Nat × Oper × PRk) → Prop) → Prop) (fun k => k []) (fun x _ ih k => Bool.rec (motive := fun _ => Prop) (ih fun r => k (x :: r)) (ih k) (Nat.testBit m x.1)) l
def planK (ops : List Oper) (l : List PStep) : List (Nat × Oper × PRk) → Sl → Hp → Dl → (Sl → Hp → Dl → Prop) → Prop :=
 List.rec (motive := fun _ => List (Nat × Oper × PRk) → Sl → Hp → Dl → (Sl → Hp → Dl → Prop) → Prop) (fun _ s h d k => k s h d)
  (fun x _ ih pd s h d k => match x with
   | .n i o => nK p E ops o s h fun pr v h' => putK s o.dst v fun s' => match pr with
    | .f id b => reAll p s' h' pd (ih ((i, o, .f id b) :: pd) s' h' d k)
    | pr => ih ((i, o, pr) :: pd) s' h' d k
   | .e _ o m => eK p ops o s h fun v h' => putK s o.dst v fun s' => leftK m pd fun pd' => reAll p s' h' pd' (ih pd' s' h' d k)) l
theorem reAll_cons (s : Sl) (h : Hp) (x : Nat × Oper × PRk) (r : List (Nat × Oper × PRk)) (k : Prop) : reAll p s h (x :: r) k = reK p s h x (reAll p s h r k) := rfl
theorem planK_n (ops : List Oper) (i : Nat) (o : Oper) (r : List PStep) (pd : List (Nat × Oper × PRk)) (s : Sl) (h : Hp) (d : Dl) (k : Sl → Hp → Dl → Prop) : planK p E ops (.n i o :: r) pd s h d k =
  nK p E ops o s h fun pr v h' => putK s o.dst v fun s' => match pr with
    | .f id b => reAll p s' h' pd (planK p E ops r ((i, o, .f id b) :: pd) s' h' d k)
    | pr => planK p E ops r ((i, o, pr) :: pd) s' h' d k := rfl
theorem planK_e (ops : List Oper) (i : Nat) (o : Oper) (m : Nat) (r : List PStep) (pd : List (Nat × Oper × PRk)) (s : Sl) (h : Hp) (d : Dl) (k : Sl → Hp → Dl → Prop) : planK p E ops (.e i o m :: r) pd s h d k =
  eK p ops o s h fun v h' => putK s o.dst v fun s' => leftK m pd fun pd' => reAll p s' h' pd' (planK p E ops r pd' s' h' d k) := rfl
def forceN : Nat → (Nat → Prop) → Prop
 | 0, k => k 0
 | n + 1, k => k (n + 1)
def forceP : List PStep → (List PStep → Prop) → Prop
 | [], k => k []
 | .n i o :: r, k => forceN i fun i => forceP r fun r => k (.n i o :: r)
 | .e i o m :: r, k => forceN i fun i => forceN m fun m => forceP r fun r => k (.e i o m :: r)
def regK (ops : List Oper) (draw : Bool) (s : Sl) (h : Hp) (d : Dl) (k : Sl → Hp → Dl → Prop) : Prop :=
 match draw with
 | false => opsK p E ops ops s h d k
 | true => match planOf ops with
  | some pl => forceP pl fun pl => planK p E ops pl [] s h d k
  | none => False
abbrev Kx := Ex → Sl → Hp → Dl → Prop
abbrev Lb := List Bool → Sl → Hp → Dl → Prop
def eqB : List Bool → List Bool → Bool
 | [], [] => true
 | true :: a, true :: b => eqB a b
 | false :: a, false :: b => eqB a b
 | _, _ => false
variable (cut : List Bool → Bool) (lab : Lb)
def blK (id : Nat) (k : Kx) : Kx := fun e s h d => match e with
 | .exit j => bif Nat.beq j id then k .normal s h d else k (.exit j) s h d
 | .normal => k .normal s h d
 | .ret => k .ret s h d
def sqK (k : Kx) (b : Sl → Hp → Dl → Prop) : Kx := fun e s h d => match e with
 | .normal => b s h d
 | .exit j => k (.exit j) s h d
 | .ret => k .ret s h d
def Kc : Code → List Bool → Sl → Hp → Dl → Kx → Prop
 | .skip, _, s, h, d, k => k .normal s h d
 | .region _ ops draw, _, s, h, d, k => regK p E ops.toList draw s h d (k .normal)
 | .seq a b, π, s, h, d, k => Kc a (false :: π) s h d (sqK k fun s' h' d' => bif cut (true :: π) then lab (true :: π) s' h' d' else Kc b (true :: π) s' h' d' k)
 | .cond c a b, π, s, h, d, k => evK s c fun v => p.cond v (fun _ => Kc a (false :: π) s h d k) (fun _ => Kc b (true :: π) s h d k)
 | .block id c, π, s, h, d, k => Kc c (false :: π) s h d (blK id k)
 | .loop _, π, s, h, d, _ => lab π s h d
 | .exit id, _, s, h, d, k => k (.exit id) s h d
 | .ret, _, s, h, d, k => k .ret s h d
 | _, _, _, _, _, _ => False
def KAt : Code → List Bool → List Bool → Kx → Sl → Hp → Dl → Prop
 | c, π, [], k, s, h, d => (match c with
  | .loop b => Kc p E cut lab b (false :: π) s h d (sqK k (lab π))
  | c => Kc p E cut lab c π s h d k)
 | .seq a b, π, false :: r, k, s, h, d => KAt a (false :: π) r (sqK k fun s' h' d' => bif cut (true :: π) then lab (true :: π) s' h' d' else Kc p E cut lab b (true :: π) s' h' d' k) s h d
 | .seq _ b, π, true :: r, k, s, h, d => KAt b (true :: π) r k s h d
 | .cond _ a _, π, false :: r, k, s, h, d => KAt a (false :: π) r k s h d
 | .cond _ _ b, π, true :: r, k, s, h, d => KAt b (true :: π) r k s h d
 | .block id c, π, false :: r, k, s, h, d => KAt c (false :: π) r (blK id k) s h d
 | .loop c, π, false :: r, k, s, h, d => KAt c (false :: π) r (sqK k (lab π)) s h d
 | _, _, _, _, _, _, _ => False
def resK (s : Sl) (h : Hp) : List ResultVar → (List V → Prop) → Prop
 | [], k => k []
 | .tmp t :: r, k => resK s h r fun l => k (nth s t :: l)
 | .cell a ty :: r, k => p.load h ty (nth s a) fun v => resK s h r fun l => k (v :: l)
def finK (fn : Func) (Q : V → Hp → Prop) : Kx := fun e s h d => match e with
 | .exit _ => False
 | _ => (match d with
  | [] => resK p s h fn.results.toList fun l => Q (match l with | [v] => v | l => .tup l) h
  | x :: r => p.idle (x :: r) (resK p s h fn.results.toList fun l => Q (match l with | [v] => v | l => .tup l) h))
end
end
end Go.Proofs.YtbchdlelmkmagaaGreatDoor.VM
namespace Go.Proofs.YtbchdlelmkmagaaGreatDoor.VM
open Go
noncomputable section
def vbinB (E : Env) (op : BinOp) (ty : TypeId) (cx cy : Bool) (x y : V) : Option V :=
 match x, y with
 | .int k a, .int j b => vbin op (.int k a) (.int j b)
 | .str a, .str b => vbin op (.str a) (.str b)
 | .nili, .nili => bif cx || cy then eqOp op ((E.ty.get ty).bind fun i => match i.k with | .iface _ => some true | _ => none) else none
 | .symI k j, y => E.so (.bin op) [.symI k j, y]
 | .symS j, y => E.so (.bin op) [.symS j, y]
 | x, .symI k j => E.so (.bin op) [x, .symI k j]
 | x, .symS j => E.so (.bin op) [x, .symS j]
 | x, y => eqOp op ((E.ty.get ty).bind fun i => veq E i x y)
def ebuiV (E : Env) (h : Hp) (ts : Array TypeId) (b : Builtin) (al : List V) : Option (V × Hp) :=
 match b, al with
 | .append, [x, y] => vappend E h ts x y
 | .copy, [x, y] => vcopy E h ts x y
 | _, _ => none
def wantV (b : V) (w : Bool) : Option Bool :=
 match b with
 | .bool c => some (c == w)
 | .tup [] => some false
 | _ => none
def boxV (e : TypeId) (x : V) : F := bif allCells x.cells then some (newCells e x.cells) else none
def Ans (E : Env) (f : Nat) (al : List V) (h : Hp) (Q : V → Hp → Prop) : Prop := ∃ v h', Cs E f al h (v, h') ∧ Q v h'
theorem Ans.mono {E : Env} {f : Nat} {al : List V} {h : Hp} {Q Q' : V → Hp → Prop} (c : Ans E f al h Q) (hq : ∀ v h', Q v h' → Q' v h') : Ans E f al h Q' := by
 obtain ⟨v, h', h1, h2⟩ := c; exact ⟨v, h', h1, hq _ _ h2⟩
def Pu (E : Env) : Pr where
 pick c a b k := ∃ x, c = .bool x ∧ ∃ v, (bif x then a else b) = some v ∧ k v
 build ty ps k := ∃ v, vbuild E ty ps = some v ∧ k v
 load h ty a k := ∃ v, vload E h ty a = some v ∧ k v
 nilc x k := ∃ v, nilCheckV x = some v ∧ k v
 bin op ty cx cy x y k := ∃ v, vbinB E op ty cx cy x y = some v ∧ k v
 un op x k := ∃ v, vun op x = some v ∧ k v
 conv h s d x k := ∃ v, vconv E h s d x = some v ∧ k v
 iface ty x k := ∃ v, ((E.ty.get ty).bind fun i => ifaceV ty x i) = some v ∧ k v
 slice ty x lo hi mx k := ∃ v, vslice E ty x lo hi mx = some v ∧ k v
 faddr ty x f k := ∃ v, vfieldAddr E ty x f = some v ∧ k v
 field ty x f k := ∃ v, vfield E ty x f = some v ∧ k v
 iaddr ty x i k := ∃ v, vindexAddr E ty x i = some v ∧ k v
 index ty x i k := ∃ v, vindex E ty x i = some v ∧ k v
 look h ty x q ok k := ∃ v, vlookup E h ty x q ok = some v ∧ k v
 assert x a ok k := ∃ v, vtypeAssert E x a ok = some v ∧ k v
 extr x i k := ∃ v, extractV i x = some v ∧ k v
 lbui h ts b al k := ∃ v, lBuiltin E h ts b al = some v ∧ k v
 alloc h e k := ∃ x, fAlloc E e = some x ∧ k (x.1.at h.n) (h.new x.2) x.2
 box h e x k := ∃ y, boxV e x = some y ∧ k (y.1.at h.n) (h.new y.2) y.2
 bsl h ty n ps k := ∃ y, vbuildSlice E ty n ps = some y ∧ k (y.1.at h.n) (h.new y.2) y.2
 mkmap h b k := b = true ∧ k (.mp h.n) (h.new (.map [] 0)) (.map [] 0)
 mksl h ty l c k := ∃ y, ((E.ty.get ty).bind fun i => makeV E l c i) = some y ∧ k (y.1.at h.n) (h.new y.2) y.2
 fconv h s d x k := ∃ y, ((E.ty.get s).bind fun _ => fconv E d x) = some y ∧ k (y.1.at h.n) (h.new y.2) y.2
 store h ty a x k := ∃ h', vstore E h ty a x = some h' ∧ k h'
 mapu h ty m q x k := ∃ h', vmapUpdate E h ty m q x = some h' ∧ k h'
 mape h ty m q k := ∃ r, vmapEntry E h ty m q = some r ∧ k r.1 r.2
 ests h m s x k := ∃ h', ventryStore h m s x = some h' ∧ k h'
 ebui h ts b al k := ∃ r, ebuiV E h ts b al = some r ∧ k r.1 r.2
 call f al h k := Ans E f al h k
 callv f al h k := ∃ x, target f al = some x ∧ Ans E x.1 x.2 h k
 invk r n al h k := ∃ x, methodV E r n al = some x ∧ Ans E x.1 x.2 h k
 dfr f al k := ∃ x, target f al = some x ∧ k x
 cond v a b := ∃ c, v = .bool c ∧ (c = true → a ()) ∧ (c = false → b ())
 gval b w f k := ∃ c, wantV b w = some c ∧ (c = true → f k) ∧ (c = false → k undefV)
 geff b w f h k := ∃ c, wantV b w = some c ∧ (c = true → f k) ∧ (c = false → k undefV h)
 gchk b w f k := ∃ c, wantV b w = some c ∧ (c = true → f k) ∧ (c = false → k)
 same u v k := sameV u v = true ∧ k
 sameb h id b k := (∃ c, h.t.get id = some c ∧ sameB c b = true) ∧ k
 idle d k := idleAll E d = true ∧ k
structure RelT (t : Tm) (s : Sl) (n : Nat) : Prop where
 len : s.length = n
 at_ : ∀ i, (t.get i).getD undefV = nth s i
theorem setK_out {w : V} : ∀ {s : Sl} {i : Nat} {k : Sl → Prop}, setK w s i k → ∃ s', k s' ∧ i < s.length ∧ s'.length = s.length ∧ ∀ j, nth s' j = if j = i then w else nth s j
 | [], _, _, h => h.elim
 | v :: l, 0, k, h => by
  rw [setK_zero] at h
  exact ⟨_, h, by simp, rfl, fun j => by cases j <;> simp [nth_zero, nth_succ]⟩
 | v :: l, n + 1, k, h => by
  rw [setK_succ] at h
  obtain ⟨s', h0, h1, h2, h3⟩ := setK_out h
  refine ⟨_, h0, by simp; omega, by simp [h2], fun j => ?_⟩
  cases j with
  | zero => simp [nth_zero]
  | succ j => simp [nth_succ, h3]
variable {E : Env} {t : Tm} {s : Sl} {n : Nat} {h : Hp}
theorem ev_eq (R : RelT t s n) (x : Operand) : ev t x = evL s x := by
 cases x <;> first | rfl | skip
 rename_i i
 show some _ = some _
 rw [R.at_ i]
theorem evK_out (R : RelT t s n) {x : Operand} {k : V → Prop} (hk : evK s x k) : ∃ v, ev t x = some v ∧ k v := by
 unfold evK at hk
 rw [← ev_eq R] at hk
 split at hk
 ·rename_i v hv; exact ⟨v, hv, hk⟩
 ·exact hk.elim
theorem evsK_out (R : RelT t s n) : ∀ {l : List Operand} {k : List V → Prop}, evsK s l k → ∃ al, evs t l = some al ∧ k al
 | [], _, hk => ⟨[], rfl, hk⟩
 | x :: l, k, hk => by
  obtain ⟨v, h1, h2⟩ := evK_out R hk
  obtain ⟨al, h3, h4⟩ := evsK_out R h2
  exact ⟨v :: al, by rw [evs, h1, Option.bind_some, h3, Option.bind_some], h4⟩
theorem evoK_out (R : RelT t s n) {x : Option Operand} {k : Option V → Prop} (hk : evoK s x k) : ∃ v, evo t x = some v ∧ k v := by
 cases x with
 | none => exact ⟨none, rfl, hk⟩
 | some x =>
  obtain ⟨v, h1, h2⟩ := evK_out R (k := fun v => k (some v)) hk
  exact ⟨some v, by rw [evo, h1]; rfl, h2⟩
theorem partsK_out (R : RelT t s n) : ∀ {l : List (Nat × Operand)} {k : List (Nat × V) → Prop}, partsK s l k → ∃ al, parts t l = some al ∧ k al
 | [], _, hk => ⟨[], rfl, hk⟩
 | (i, x) :: l, k, hk => by
  obtain ⟨v, h1, h2⟩ := evK_out R (k := fun v => partsK s l fun l => k ((i, v) :: l)) hk
  obtain ⟨al, h3, h4⟩ := partsK_out R h2
  exact ⟨(i, v) :: al, by rw [parts, h1, Option.bind_some, h3, Option.bind_some], h4⟩
theorem putK_out (R : RelT t s n) {dst : Option Tmp} {v : V} {k : Sl → Prop} (hk : putK s dst v k) (h0 h : Hp) (d : Dl) : ∃ t' s', St.put ⟨t, h0, d, n⟩ dst v h = some ⟨t', h, d, n⟩ ∧ RelT t' s' n ∧ k s' := by
 cases dst with
 | none => exact ⟨t, s, rfl, R, hk⟩
 | some i =>
  have hk : setK v s i k := hk
  ·obtain ⟨s', hk, h1, h2, h3⟩ := setK_out hk
   refine ⟨t.put i v, s', ?_, ⟨h2.trans R.len, fun j => ?_⟩, hk⟩
   ·have : Nat.blt i n = true := by simp [Nat.blt_eq, ← R.len, h1]
    simp only [St.put, this, cond_true]
   ·rw [T.get_put, h3]
    split
    ·rfl
    ·exact R.at_ j
theorem lopK_out (R : RelT t s n) {op : Op} {k : V → Prop} (hk : lopK (Pu E) s h op k) : ∃ v, lop E t h op = some v ∧ k v := by
 cases op <;> simp only [lopK] at hk <;> first | exact hk.elim | skip
 case move x => exact evK_out R hk
 case pick c a b =>
  obtain ⟨cv, h1, x, rfl, v, h3, h4⟩ := evK_out R hk
  refine ⟨v, ?_, h4⟩
  show lPick t c a b = _
  rw [lPick, h1, Option.bind_some, ev_eq R, ev_eq R]
  cases x <;> exact h3
 case build ty ps =>
  obtain ⟨l, h1, v, h2, h3⟩ := partsK_out R hk
  exact ⟨v, by show lBuild E t ty ps = _; rw [lBuild, h1, Option.bind_some, h2], h3⟩
 case load ty a =>
  obtain ⟨x, h1, v, h2, h3⟩ := evK_out R hk
  exact ⟨v, by show lLoad E t h ty a = _; rw [lLoad, h1, Option.bind_some, h2], h3⟩
 case nilCheck x =>
  obtain ⟨y, h1, v, h2, h3⟩ := evK_out R hk
  exact ⟨v, by show lNilCheck t x = _; rw [lNilCheck, h1, Option.bind_some, h2], h3⟩
 case binOp op ty x y yt =>
  obtain ⟨a, h1, hk⟩ := evK_out R hk
  obtain ⟨b, h2, v, h3, h4⟩ := evK_out R hk
  exact ⟨v, by show lBin E t op ty x y = _; rw [lBin, h1, Option.bind_some, h2, Option.bind_some]; exact h3, h4⟩
 case unOp op ty x =>
  obtain ⟨y, h1, v, h2, h3⟩ := evK_out R hk
  exact ⟨v, by show lUn t op x = _; rw [lUn, h1, Option.bind_some, h2], h3⟩
 case convert a d x =>
  obtain ⟨y, h1, v, h2, h3⟩ := evK_out R hk
  exact ⟨v, by show lConv E t h a d x = _; rw [lConv, h1, Option.bind_some, h2], h3⟩
 case makeInterface ty x =>
  obtain ⟨y, h1, v, h2, h3⟩ := evK_out R hk
  exact ⟨v, by show lIface E t ty x = _; rw [lIface, h1, Option.bind_some, h2], h3⟩
 case makeFunc f a c =>
  obtain ⟨al, h1, hk⟩ := evsK_out R hk
  obtain ⟨cl, h2, h3⟩ := evsK_out R hk
  exact ⟨_, by show lFunc t f a c = _; rw [lFunc, h1, Option.bind_some, h2, Option.bind_some], h3⟩
 case slice ty x lo hi mx =>
  obtain ⟨y, h1, hk⟩ := evK_out R hk
  obtain ⟨lo', h2, hk⟩ := evoK_out R hk
  obtain ⟨hi', h3, hk⟩ := evoK_out R hk
  obtain ⟨mx', h4, v, h5, h6⟩ := evoK_out R hk
  exact ⟨v, by show lSlice E t ty x lo hi mx = _; rw [lSlice, h1, Option.bind_some, h2, Option.bind_some, h3, Option.bind_some, h4, Option.bind_some, h5], h6⟩
 case fieldAddr ty x f =>
  obtain ⟨y, h1, v, h2, h3⟩ := evK_out R hk
  exact ⟨v, by show lFieldAddr E t ty x f = _; rw [lFieldAddr, h1, Option.bind_some, h2], h3⟩
 case field ty x f =>
  obtain ⟨y, h1, v, h2, h3⟩ := evK_out R hk
  exact ⟨v, by show lField E t ty x f = _; rw [lField, h1, Option.bind_some, h2], h3⟩
 case indexAddr ty x i =>
  obtain ⟨y, h1, hk⟩ := evK_out R hk
  obtain ⟨z, h2, v, h3, h4⟩ := evK_out R hk
  exact ⟨v, by show lIndexAddr E t ty x i = _; rw [lIndexAddr, h1, Option.bind_some, h2, Option.bind_some, h3], h4⟩
 case index ty x i =>
  obtain ⟨y, h1, hk⟩ := evK_out R hk
  obtain ⟨z, h2, v, h3, h4⟩ := evK_out R hk
  exact ⟨v, by show lIndex E t ty x i = _; rw [lIndex, h1, Option.bind_some, h2, Option.bind_some, h3], h4⟩
 case lookup ty x q ok =>
  obtain ⟨y, h1, hk⟩ := evK_out R hk
  obtain ⟨z, h2, v, h3, h4⟩ := evK_out R hk
  exact ⟨v, by show lLookup E t h ty x q ok = _; rw [lLookup, h1, Option.bind_some, h2, Option.bind_some, h3], h4⟩
 case typeAssert x xt a ok =>
  obtain ⟨y, h1, v, h2, h3⟩ := evK_out R hk
  exact ⟨v, by show lAssert E t x a ok = _; rw [lAssert, h1, Option.bind_some, h2], h3⟩
 case extract x i =>
  obtain ⟨y, h1, v, h2, h3⟩ := evK_out R hk
  exact ⟨v, by show lExtract t x i = _; rw [lExtract, h1, Option.bind_some, h2], h3⟩
 case call c =>
  obtain ⟨callee, args, ats⟩ := c
  cases callee with
  | value f => exact hk.elim
  | invoke r m => exact hk.elim
  | builtin b =>
   obtain ⟨al, h1, v, h2, h3⟩ := evsK_out R hk
   exact ⟨v, by show lCall E t h ⟨.builtin b, args, ats⟩ = _; rw [lCall]; simp only; rw [h1, Option.bind_some, h2], h3⟩
theorem fopK_out (R : RelT t s n) {op : Op} {k : V → Hp → Blk → Prop} (hF : isF E op = true) (hk : fopK (Pu E) s h op k) : ∃ r b, fop E t op = some (r, b) ∧ lop E t h op = none ∧ k (r.at h.n) (h.new b) b := by
 cases op <;> simp only [fopK] at hk <;> first | exact hk.elim | skip
 case alloc e =>
  obtain ⟨⟨r, b⟩, h1, h2⟩ := hk
  exact ⟨r, b, h1, rfl, h2⟩
 case box e x =>
  obtain ⟨v, h1, ⟨r, b⟩, h2, h3⟩ := evK_out R hk
  exact ⟨r, b, by show fBox t e x = _; rw [fBox, h1, Option.bind_some]; exact h2, rfl, h3⟩
 case buildSlice ty m ps =>
  obtain ⟨l, h1, ⟨r, b⟩, h2, h3⟩ := partsK_out R hk
  exact ⟨r, b, by show fBuildSlice E t ty m ps = _; rw [fBuildSlice, h1, Option.bind_some, h2], rfl, h3⟩
 case makeMap ty r =>
  obtain ⟨h1, h2⟩ := hk
  cases r with
  | none => exact ⟨.mp, .map [] 0, rfl, rfl, h2⟩
  | some r => cases h1
 case makeSlice ty l c =>
  obtain ⟨lv, h1, hk⟩ := evK_out R hk
  obtain ⟨cv, h2, ⟨r, b⟩, h3, h4⟩ := evK_out R hk
  exact ⟨r, b, by show fMake E t ty l c = _; rw [fMake, h1, Option.bind_some, h2, Option.bind_some, h3], rfl, h4⟩
 case convert a d x =>
  obtain ⟨v, h1, ⟨r, b⟩, h2, h3⟩ := evK_out R hk
  refine ⟨r, b, ?_, ?_, h3⟩
  ·show fConv E t a d x = _
   rw [fConv, ← h2]
   cases E.ty.get a with
   | none => rfl
   | some i => rw [Option.bind_some, Option.bind_some, h1, Option.bind_some]
  ·show lConv E t h a d x = _
   rw [lConv, h1, Option.bind_some]
   simp only [isF, isSlT] at hF
   split at hF
   ·rename_i i hi
    unfold vconv
    rw [hi]
    cases E.ty.get a with
    | none => rfl
    | some j =>
     simp only [Option.bind_some]
     split at hF
     ·rename_i e he
      rw [he]
     ·cases hF
   ·cases hF
theorem effK_out (R : RelT t s n) {op : Op} {k : V → Hp → Prop} (hk : effK (Pu E) s h op k) : ∃ v h', k v h' ∧ ∀ (d : Dl) (dst : Option Tmp) (x : St), St.put ⟨t, h, d, n⟩ dst v h' = some x → onNxs E ⟨t, h, d, n⟩ dst (eop E t h op) x := by
 have put_h : ∀ (d : Dl) (dst : Option Tmp) (v : V) (h0 h1 h2 : Hp), St.put ⟨t, h0, d, n⟩ dst v h2 = St.put ⟨t, h1, d, n⟩ dst v h2 := fun _ _ _ _ _ _ => rfl
 cases op <;> simp only [effK] at hk <;> first | exact hk.elim | skip
 case assign x =>
  obtain ⟨v, h1, h2⟩ := evK_out R hk
  refine ⟨v, h, h2, fun d dst x hx => ?_⟩
  show onNxs E _ dst (rV h (ev t _)) x
  rw [h1]; exact hx
 case store ty a x =>
  obtain ⟨av, h1, hk⟩ := evK_out R hk
  obtain ⟨xv, h2, h', h3, h4⟩ := evK_out R hk
  refine ⟨undefV, h', h4, fun d dst z hz => ?_⟩
  show onNxs E _ dst (eStore E t h ty a x) z
  rw [eStore, h1, Option.bind_some, h2, Option.bind_some, h3]; exact hz
 case mapUpdate ty m q x =>
  obtain ⟨mv, h1, hk⟩ := evK_out R hk
  obtain ⟨qv, h2, hk⟩ := evK_out R hk
  obtain ⟨xv, h3, h', h4, h5⟩ := evK_out R hk
  refine ⟨undefV, h', h5, fun d dst z hz => ?_⟩
  show onNxs E _ dst (eMapUpdate E t h ty m q x) z
  rw [eMapUpdate, h1, Option.bind_some, h2, Option.bind_some, h3, Option.bind_some, h4]; exact hz
 case insert ty m q x =>
  obtain ⟨mv, h1, hk⟩ := evK_out R hk
  obtain ⟨qv, h2, hk⟩ := evK_out R hk
  obtain ⟨xv, h3, h', h4, h5⟩ := evK_out R hk
  refine ⟨undefV, h', h5, fun d dst z hz => ?_⟩
  show onNxs E _ dst (eMapUpdate E t h ty m q x) z
  rw [eMapUpdate, h1, Option.bind_some, h2, Option.bind_some, h3, Option.bind_some, h4]; exact hz
 case mapEntry ty m q =>
  obtain ⟨mv, h1, hk⟩ := evK_out R hk
  obtain ⟨qv, h2, ⟨v, h'⟩, h3, h4⟩ := evK_out R hk
  refine ⟨v, h', h4, fun d dst z hz => ?_⟩
  show onNxs E _ dst (eMapEntry E t h ty m q) z
  rw [eMapEntry, h1, Option.bind_some, h2, Option.bind_some, h3]; exact hz
 case entryStore ty m q x =>
  obtain ⟨mv, h1, hk⟩ := evK_out R hk
  obtain ⟨qv, h2, hk⟩ := evK_out R hk
  obtain ⟨xv, h3, h', h4, h5⟩ := evK_out R hk
  refine ⟨undefV, h', h5, fun d dst z hz => ?_⟩
  show onNxs E _ dst (eEntryStore t h m q x) z
  rw [eEntryStore, h1, Option.bind_some, h2, Option.bind_some, h3, Option.bind_some, h4]; exact hz
 case call c =>
  obtain ⟨callee, args, ats⟩ := c
  obtain ⟨al, h1, hk⟩ := evsK_out R hk
  cases callee with
  | value f =>
   have key : ∀ fv g xs, ev t f = some fv → target fv al = some (g, xs) → Ans E g xs h k → ∃ v h', k v h' ∧ ∀ (d : Dl) (dst : Option Tmp) (x : St), St.put ⟨t, h, d, n⟩ dst v h' = some x → onNxs E ⟨t, h, d, n⟩ dst (eop E t h (.call ⟨.value f, args, ats⟩)) x := by
    rintro fv g xs h2 h3 ⟨v, h', h4, h5⟩
    refine ⟨v, h', h5, fun d dst z hz => ?_⟩
    show onNxs E _ dst (eCall E t h ⟨.value f, args, ats⟩) z
    rw [eCall, h1, Option.bind_some]
    simp only
    rw [h2, Option.bind_some, h3, Option.bind_some]
    exact ⟨(v, h'), h4, hz⟩
   cases f with
   | func f => exact key (.fn (.func f) [] []) f al rfl (by simp [target]) hk
   | tmp i =>
    obtain ⟨fv, h2, ⟨g, xs⟩, h3, h4⟩ := evK_out R hk
    exact key fv g xs h2 h3 h4
   | const c =>
    obtain ⟨fv, h2, ⟨g, xs⟩, h3, h4⟩ := evK_out R hk
    exact key fv g xs h2 h3 h4
   | global g => obtain ⟨x, h3, _⟩ := hk; cases h3
  | invoke r m =>
   obtain ⟨rv, h2, ⟨g, xs⟩, h3, v, h', h4, h5⟩ := evK_out R hk
   refine ⟨v, h', h5, fun d dst z hz => ?_⟩
   show onNxs E _ dst (eCall E t h ⟨.invoke r m, args, ats⟩) z
   rw [eCall, h1, Option.bind_some]
   simp only
   rw [h2, Option.bind_some, h3, Option.bind_some]
   exact ⟨(v, h'), h4, hz⟩
  | builtin b =>
   obtain ⟨⟨v, h'⟩, h2, h3⟩ := hk
   refine ⟨v, h', h3, fun d dst z hz => ?_⟩
   show onNxs E _ dst (eCall E t h ⟨.builtin b, args, ats⟩) z
   rw [eCall, h1, Option.bind_some]
   simp only
   unfold ebuiV at h2
   split at h2
   ·rw [eBuiltin, h2]; exact hz
   ·rw [eBuiltin, h2]; exact hz
   ·cases h2
end
end Go.Proofs.YtbchdlelmkmagaaGreatDoor.VM
namespace Go.Proofs.YtbchdlelmkmagaaGreatDoor.VM
open Go
noncomputable section
variable {E : Env} {t : Tm} {s : Sl} {n : Nat} {h : Hp}
theorem guard_none {ops : List Oper} {g : Option (Nat × Bool)} (hg : guardOf ops g = some none) : wantedV t ops g = some true := by
 unfold guardOf at hg
 split at hg
 ·rfl
 ·split at hg
  ·split at hg <;> cases hg
  ·cases hg
theorem guard_some (R : RelT t s n) {ops : List Oper} {g : Option (Nat × Bool)} {i : Nat} {w : Bool} (hg : guardOf ops g = some (some (i, w))) : wantedV t ops g = wantV (nth s i) w := by
 unfold guardOf at hg
 split at hg
 ·cases hg
 ·rename_i j w'
  split at hg
  ·rename_i o ho
   split at hg
   ·rename_i d hd
    cases hg
    rw [wantedV, ho, Option.bind_some, hd, Option.bind_some]
    rw [R.at_]
    rfl
   ·cases hg
  ·cases hg
theorem opK_out (R : RelT t s n) {ops : List Oper} {o : Oper} {d : Dl} {k : Sl → Hp → Dl → Prop} (hk : opK (Pu E) E ops o s h d k) :
  ∃ t' s' h' d', (∃ m, opStep E (callOf E (exec E m)) ops o ⟨t, h, d, n⟩ = some ⟨t', h', d', n⟩) ∧ RelT t' s' n ∧ k s' h' d' := by
 unfold opK at hk
 have viaE : ∀ {v : V} {h' : Hp} (hE : isE o.op = true) (hw : wantedV t ops o.guard = some true), (∀ (d : Dl) (dst : Option Tmp) (x : St), St.put ⟨t, h, d, n⟩ dst v h' = some x → onNxs E ⟨t, h, d, n⟩ dst (eop E t h o.op) x) → putK s o.dst v (fun s' => k s' h' d) →
   ∃ t' s' h' d', (∃ m, opStep E (callOf E (exec E m)) ops o ⟨t, h, d, n⟩ = some ⟨t', h', d', n⟩) ∧ RelT t' s' n ∧ k s' h' d' := by
  intro v h' hE hw h2 hp
  obtain ⟨t', s', h3, h4, h5⟩ := putK_out R hp h h' d
  obtain ⟨m, h6⟩ := onNxs_some (h2 d o.dst _ h3)
  exact ⟨t', s', h', d, ⟨m, by rw [opStep, hE]; simp only; rw [eStep]; simp only; rw [hw, Option.bind_some]; exact h6⟩, h4, h5⟩
 have viaL : ∀ {v : V} (hE : isE o.op = false) (hw : wantedV t ops o.guard = some true), lop E t h o.op = some v → putK s o.dst v (fun s' => k s' h d) →
   ∃ t' s' h' d', (∃ m, opStep E (callOf E (exec E m)) ops o ⟨t, h, d, n⟩ = some ⟨t', h', d', n⟩) ∧ RelT t' s' n ∧ k s' h' d' := by
  intro v hE hw h2 hp
  obtain ⟨t', s', h3, h4, h5⟩ := putK_out R hp h h d
  exact ⟨t', s', h, d, ⟨0, by rw [opStep, hE]; simp only; rw [nStep]; simp only; rw [hw, Option.bind_some, prOf, h2, Option.bind_some]; exact h3⟩, h4, h5⟩
 have viaF : ∀ {r : Fr} {b : Blk} (hE : isE o.op = false) (hw : wantedV t ops o.guard = some true), fop E t o.op = some (r, b) → lop E t h o.op = none → putK s o.dst (r.at h.n) (fun s' => k s' (h.new b) d) →
   ∃ t' s' h' d', (∃ m, opStep E (callOf E (exec E m)) ops o ⟨t, h, d, n⟩ = some ⟨t', h', d', n⟩) ∧ RelT t' s' n ∧ k s' h' d' := by
  intro r b hE hw h2 h2' hp
  obtain ⟨t', s', h3, h4, h5⟩ := putK_out R hp h (h.new b) d
  exact ⟨t', s', h.new b, d, ⟨0, by rw [opStep, hE]; simp only; rw [nStep]; simp only; rw [hw, Option.bind_some, prOf, h2', h2, Option.bind_some]; exact h3⟩, h4, h5⟩
 have viaN : (hw : wantedV t ops o.guard = some false) → putK s o.dst undefV (fun s' => k s' h d) →
   ∃ t' s' h' d', (∃ m, opStep E (callOf E (exec E m)) ops o ⟨t, h, d, n⟩ = some ⟨t', h', d', n⟩) ∧ RelT t' s' n ∧ k s' h' d' := by
  intro hw hp
  obtain ⟨t', s', h3, h4, h5⟩ := putK_out R hp h h d
  refine ⟨t', s', h, d, ⟨0, ?_⟩, h4, h5⟩
  rw [opStep]
  cases isE o.op with
  | true => simp only; rw [eStep]; simp only; rw [hw, Option.bind_some]; exact h3
  | false => simp only; rw [nStep]; simp only; rw [hw, Option.bind_some, Option.bind_some]; exact h3
 split at hk
 ·exact hk.elim
 ·rename_i hg
  have hw := guard_none (t := t) hg
  split at hk
  ·rename_i c hop
   split at hk
   ·rename_i f hc
    obtain ⟨al, h1, hk⟩ := evsK_out R hk
    obtain ⟨fv, h2, ⟨g, xs⟩, h3, h4⟩ := evK_out R hk
    obtain ⟨t', s', h5, h6, h7⟩ := putK_out R h4 h h ((g, xs) :: d)
    refine ⟨t', s', h, (g, xs) :: d, ⟨0, ?_⟩, h6, h7⟩
    have hE : isE o.op = true := by rw [hop]; rfl
    rw [opStep, hE]
    simp only
    rw [eStep]
    simp only
    rw [hw, Option.bind_some]
    simp only
    have : eop E t h o.op = some (.dfr g xs, h) := by
     rw [hop]
     show eDefer t h c = _
     rw [eDefer, hc]
     simp only
     rw [h1, Option.bind_some, h2, Option.bind_some, h3, Option.bind_some]
    rw [this]
    exact h5
   ·exact hk.elim
  ·rename_i op hne
   cases hE : isE o.op with
   | true =>
    rw [hE] at hk
    simp only [cond_true] at hk
    obtain ⟨v, h', h1, h2⟩ := effK_out R hk
    exact viaE hE hw h2 h1
   | false =>
    rw [hE] at hk
    simp only [cond_false] at hk
    cases hF : isF E o.op with
    | true =>
     rw [hF] at hk
     simp only [cond_true] at hk
     obtain ⟨r, b, h1, h2, h3⟩ := fopK_out R hF hk
     exact viaF hE hw h1 h2 h3
    | false =>
     rw [hF] at hk
     simp only [cond_false] at hk
     obtain ⟨v, h1, h2⟩ := lopK_out R hk
     exact viaL hE hw h1 h2
 ·rename_i g w hg
  have hw := guard_some R hg
  cases hE : isE o.op with
  | true =>
   rw [hE] at hk
   obtain ⟨c, h1, h2, h3⟩ := hk
   rw [h1] at hw
   cases c with
   | true =>
    obtain ⟨v, h', h4, h5⟩ := effK_out R (h2 rfl)
    exact viaE hE hw h5 h4
   | false => exact viaN hw (h3 rfl)
  | false =>
   rw [hE] at hk
   simp only [cond_false] at hk
   cases hF : isF E o.op with
   | true =>
    rw [hF] at hk
    obtain ⟨c, h1, h2, h3⟩ := hk
    rw [h1] at hw
    cases c with
    | true =>
     obtain ⟨r, b, h4, h5, h6⟩ := fopK_out R hF (h2 rfl)
     exact viaF hE hw h4 h5 h6
    | false => exact viaN hw (h3 rfl)
   | false =>
    rw [hF] at hk
    obtain ⟨c, h1, h2, h3⟩ := hk
    rw [h1] at hw
    cases c with
    | true =>
     obtain ⟨v, h4, h5⟩ := lopK_out R (h2 rfl)
     exact viaL hE hw h4 h5
    | false => exact viaN hw (h3 rfl)
theorem opsK_out {ops : List Oper} : ∀ {l : List Oper} {t : Tm} {s : Sl} {h : Hp} {d : Dl} {k : Sl → Hp → Dl → Prop}, RelT t s n → opsK (Pu E) E ops l s h d k →
  ∃ t' s' h' d', (∃ m, opsRun E (callOf E (exec E m)) ops l ⟨t, h, d, n⟩ = some ⟨t', h', d', n⟩) ∧ RelT t' s' n ∧ k s' h' d'
 | [], t, s, h, d, k, R, hk => ⟨t, s, h, d, ⟨0, rfl⟩, R, hk⟩
 | o :: l, t, s, h, d, k, R, hk => by
  rw [opsK_cons] at hk
  obtain ⟨t1, s1, h1, d1, a1, R1, hk⟩ := opK_out R hk
  obtain ⟨t2, s2, h2, d2, a2, R2, hk⟩ := opsK_out R1 hk
  exact ⟨t2, s2, h2, d2, ops_cons a1 a2, R2, hk⟩
def prOfK : PRk → PR → Prop
 | .skip, .skip => True
 | .l v, .l u => v = u
 | .f i b, .f _ c j => i = j ∧ b = c
 | .g b w v, p => ∃ c, wantV b w = some c ∧ (c = true → p = .l v) ∧ (c = false → p = .skip)
 | _, _ => False
def pdOK : List (Nat × Oper × PRk) → List (Nat × Oper × PR) → Prop
 | [], [] => True
 | x :: r, y :: q => x.1 = y.1 ∧ x.2.1 = y.2.1 ∧ prOfK x.2.2 y.2.2 ∧ pdOK r q
 | _, _ => False
theorem pdOK.filter (f : Nat → Bool) : ∀ {a : List (Nat × Oper × PRk)} {b : List (Nat × Oper × PR)}, pdOK a b → pdOK (a.filter fun x => f x.1) (b.filter fun x => f x.1)
 | [], [], _ => trivial
 | [], _ :: _, h => h.elim
 | _ :: _, [], h => h.elim
 | x :: r, y :: q, h => by
  obtain ⟨h1, h2, h3, h4⟩ := h
  rw [List.filter_cons, List.filter_cons, h1]
  split
  ·exact ⟨h1, h2, h3, h4.filter f⟩
  ·exact h4.filter f
theorem reK_out (R : RelT t s n) {x : Nat × Oper × PRk} {y : Nat × Oper × PR} {k : Prop} {d : Dl} (h2 : x.2.1 = y.2.1) (h3 : prOfK x.2.2 y.2.2) (hk : reK (Pu E) s h x k) : still E ⟨t, h, d, n⟩ y = true ∧ k := by
 obtain ⟨i, o, r⟩ := x
 obtain ⟨j, o', q⟩ := y
 simp only at h2 h3
 subst h2
 cases r with
 | skip =>
  cases q <;> first | exact h3.elim | exact ⟨rfl, hk⟩
 | l v =>
  cases q <;> first | exact h3.elim | skip
  rename_i u
  cases h3
  simp only [reK] at hk
  simp only [still]
  cases hr : readsM o.op with
  | false => rw [hr] at hk; exact ⟨rfl, hk⟩
  | true =>
   rw [hr] at hk
   obtain ⟨u, h4, h5, h6⟩ := lopK_out R hk
   simp only [cond_true, h4]
   exact ⟨h5, h6⟩
 | f id b =>
  cases q <;> first | exact h3.elim | skip
  obtain ⟨h3, h4⟩ := h3
  subst h3 h4
  simp only [reK] at hk
  obtain ⟨⟨c, h5, h6⟩, h7⟩ := hk
  simp only [still]
  rw [h5]
  exact ⟨h6, h7⟩
 | g b w v =>
  obtain ⟨c, h4, h5, h6⟩ := h3
  simp only [reK] at hk
  cases c with
  | false =>
   obtain rfl := h6 rfl
   refine ⟨rfl, ?_⟩
   cases hr : readsM o.op with
   | false => rw [hr] at hk; exact hk
   | true =>
    rw [hr] at hk
    obtain ⟨c', h7, _, h8⟩ := hk
    rw [h4] at h7
    cases h7
    exact h8 rfl
  | true =>
   obtain rfl := h5 rfl
   simp only [still]
   cases hr : readsM o.op with
   | false => rw [hr] at hk; exact ⟨rfl, hk⟩
   | true =>
    rw [hr] at hk
    obtain ⟨c', h7, h8, _⟩ := hk
    rw [h4] at h7
    cases h7
    obtain ⟨u, h9, h10, h11⟩ := lopK_out R (h8 rfl)
    simp only [cond_true, h9]
    exact ⟨h10, h11⟩
theorem reAll_out (R : RelT t s n) {d : Dl} : ∀ {a : List (Nat × Oper × PRk)} {b : List (Nat × Oper × PR)} {k : Prop}, pdOK a b → reAll (Pu E) s h a k → b.all (still E ⟨t, h, d, n⟩) = true ∧ k
 | [], [], _, _, hk => ⟨rfl, hk⟩
 | [], _ :: _, _, h, _ => h.elim
 | _ :: _, [], _, h, _ => h.elim
 | x :: r, y :: q, k, hp, hk => by
  obtain ⟨h1, h2, h3, h4⟩ := hp
  rw [reAll_cons] at hk
  obtain ⟨h5, h6⟩ := reK_out (d := d) R h2 h3 hk
  obtain ⟨h7, h8⟩ := reAll_out R (d := d) h4 h6
  exact ⟨by rw [List.all_cons, h5, h7]; rfl, h8⟩
theorem nK_out (R : RelT t s n) {ops : List Oper} {o : Oper} {k : PRk → V → Hp → Prop} {d : Dl} (hk : nK (Pu E) E ops o s h k) :
  ∃ pk p v h', nStep E ops o ⟨t, h, d, n⟩ = some p ∧ prOfK pk p ∧ k pk v h' ∧ ∀ dst, St.take ⟨t, h, d, n⟩ dst p = St.put ⟨t, h, d, n⟩ dst v h' := by
 have go : wantedV t ops o.guard = some true → (bif isF E o.op then fopK (Pu E) s h o.op (fun v h' b => k (.f h.n b) v h') else lopK (Pu E) s h o.op fun v => k (.l v) v h) →
   ∃ pk p v h', nStep E ops o ⟨t, h, d, n⟩ = some p ∧ prOfK pk p ∧ k pk v h' ∧ ∀ dst, St.take ⟨t, h, d, n⟩ dst p = St.put ⟨t, h, d, n⟩ dst v h' := by
  intro hw hk
  cases hF : isF E o.op with
  | true =>
   rw [hF] at hk
   obtain ⟨r, b, h1, h2, h3⟩ := fopK_out R hF hk
   exact ⟨.f h.n b, .f r b h.n, r.at h.n, h.new b, by rw [nStep]; simp only; rw [hw, Option.bind_some, prOf, h2, h1], ⟨rfl, rfl⟩, h3, fun _ => rfl⟩
  | false =>
   rw [hF] at hk
   obtain ⟨v, h1, h2⟩ := lopK_out R hk
   exact ⟨.l v, .l v, v, h, by rw [nStep]; simp only; rw [hw, Option.bind_some, prOf, h1], rfl, h2, fun _ => rfl⟩
 have no : wantedV t ops o.guard = some false → k .skip undefV h →
   ∃ pk p v h', nStep E ops o ⟨t, h, d, n⟩ = some p ∧ prOfK pk p ∧ k pk v h' ∧ ∀ dst, St.take ⟨t, h, d, n⟩ dst p = St.put ⟨t, h, d, n⟩ dst v h' := by
  intro hw hk
  exact ⟨.skip, .skip, undefV, h, by rw [nStep]; simp only; rw [hw, Option.bind_some], trivial, hk, fun _ => rfl⟩
 unfold nK at hk
 split at hk
 ·exact hk.elim
 ·rename_i hg
  exact go (guard_none hg) hk
 ·rename_i g w hg
  have hw := guard_some R hg
  cases hF : isF E o.op with
  | true =>
   rw [hF] at hk go
   simp only [cond_true] at hk go
   obtain ⟨c, h1, h2, h3⟩ := hk
   have hw' : wantedV t ops o.guard = some (c == w) := by rw [hw, h1]; rfl
   cases c with
   | true =>
    have h2 := h2 rfl
    cases w with
    | true => exact go hw' h2
    | false => exact no hw' h2
   | false =>
    have h3 := h3 rfl
    cases w with
    | true => exact no hw' h3
    | false => exact go hw' h3
  | false =>
   rw [hF] at hk
   obtain ⟨c, h1, h2, h3⟩ := hk
   rw [h1] at hw
   cases c with
   | true =>
    obtain ⟨v, h4, h5⟩ := lopK_out R (h2 rfl)
    exact ⟨.g (nth s g) w v, .l v, v, h, by rw [nStep]; simp only; rw [hw, Option.bind_some, prOf, h4], ⟨true, h1, fun _ => rfl, by simp⟩, h5, fun _ => rfl⟩
   | false => exact ⟨.g (nth s g) w undefV, .skip, undefV, h, by rw [nStep]; simp only; rw [hw, Option.bind_some], ⟨false, h1, by simp, fun _ => rfl⟩, h3 rfl, fun _ => rfl⟩
theorem eK_out (R : RelT t s n) {ops : List Oper} {o : Oper} {k : V → Hp → Prop} {d : Dl} (hk : eK (Pu E) ops o s h k) :
  ∃ v h', k v h' ∧ ∀ x, St.put ⟨t, h, d, n⟩ o.dst v h' = some x → ∃ m, eStep E (callOf E (exec E m)) ops o ⟨t, h, d, n⟩ = some x := by
 have go : wantedV t ops o.guard = some true → effK (Pu E) s h o.op k → ∃ v h', k v h' ∧ ∀ x, St.put ⟨t, h, d, n⟩ o.dst v h' = some x → ∃ m, eStep E (callOf E (exec E m)) ops o ⟨t, h, d, n⟩ = some x := by
  intro hw hk
  obtain ⟨v, h', h1, h2⟩ := effK_out R hk
  refine ⟨v, h', h1, fun x hx => ?_⟩
  obtain ⟨m, h3⟩ := onNxs_some (h2 d o.dst x hx)
  exact ⟨m, by rw [eStep]; simp only; rw [hw, Option.bind_some]; exact h3⟩
 unfold eK at hk
 split at hk
 ·exact hk.elim
 ·rename_i hg
  exact go (guard_none hg) hk
 ·rename_i g w hg
  have hw := guard_some R hg
  obtain ⟨c, h1, h2, h3⟩ := hk
  rw [h1] at hw
  cases c with
  | true => exact go hw (h2 rfl)
  | false => exact ⟨undefV, h, h3 rfl, fun x hx => ⟨0, by rw [eStep]; simp only; rw [hw, Option.bind_some]; exact hx⟩⟩
theorem leftK_eq (m : Nat) : ∀ (l : List (Nat × Oper × PRk)) (k : List (Nat × Oper × PRk) → Prop), leftK m l k = k (l.filter fun x => !Nat.testBit m x.1)
 | [], _ => rfl
 | x :: r, k => by
  have e : leftK m (x :: r) k = Bool.rec (motive := fun _ => Prop) (leftK m r fun r => k (x :: r)) (leftK m r k) (Nat.testBit m x.1) := rfl
  rw [e, leftK_eq m r, leftK_eq m r, List.filter_cons]
  cases Nat.testBit m x.1 <;> rfl
theorem planK_out {ops : List Oper} : ∀ {l : List PStep} {pd : List (Nat × Oper × PRk)} {qd : List (Nat × Oper × PR)} {t : Tm} {s : Sl} {h : Hp} {d : Dl} {k : Sl → Hp → Dl → Prop}, RelT t s n → pdOK pd qd → planK (Pu E) E ops l pd s h d k →
  ∃ t' s' h' d', (∃ m, planRun E (callOf E (exec E m)) ops l qd ⟨t, h, d, n⟩ = some ⟨t', h', d', n⟩) ∧ RelT t' s' n ∧ k s' h' d'
 | [], _, _, t, s, h, d, _, R, _, hk => ⟨t, s, h, d, ⟨0, rfl⟩, R, hk⟩
 | .n i o :: l, pd, qd, t, s, h, d, k, R, hp, hk => by
  rw [planK_n] at hk
  obtain ⟨pk, p, v, h1, a1, a2, a3, a4⟩ := nK_out (d := d) R hk
  obtain ⟨t1, s1, b1, R1, hk⟩ := putK_out R a3 h h1 d
  rw [← a4] at b1
  cases pk with
  | f id b =>
   obtain ⟨c1, c2⟩ := reAll_out R1 (d := d) hp hk
   cases p with
   | f r c j =>
    obtain ⟨t2, s2, h2, d2, e1, R2, hk⟩ := planK_out (pd := (i, o, .f id b) :: pd) (qd := (i, o, .f r c j) :: qd) R1 ⟨rfl, rfl, a2, hp⟩ c2
    exact ⟨t2, s2, h2, d2, plan_n a1 b1 c1 e1, R2, hk⟩
   | skip => exact a2.elim
   | l u => exact a2.elim
  | l v =>
   cases p with
   | l u =>
    obtain ⟨t2, s2, h2, d2, e1, R2, hk⟩ := planK_out (pd := (i, o, .l v) :: pd) (qd := (i, o, .l u) :: qd) R1 ⟨rfl, rfl, a2, hp⟩ hk
    exact ⟨t2, s2, h2, d2, plan_n a1 b1 rfl e1, R2, hk⟩
   | skip => exact a2.elim
   | f r c j => exact a2.elim
  | g b w u =>
   obtain ⟨c, c1, c2, c3⟩ := a2
   cases c with
   | true =>
    obtain rfl := c2 rfl
    obtain ⟨t2, s2, h2, d2, e1, R2, hk⟩ := planK_out (pd := (i, o, .g b w u) :: pd) (qd := (i, o, .l u) :: qd) R1 ⟨rfl, rfl, ⟨true, c1, fun _ => rfl, by simp⟩, hp⟩ hk
    exact ⟨t2, s2, h2, d2, plan_n a1 b1 rfl e1, R2, hk⟩
   | false =>
    obtain rfl := c3 rfl
    obtain ⟨t2, s2, h2, d2, e1, R2, hk⟩ := planK_out (pd := (i, o, .g b w u) :: pd) (qd := (i, o, .skip) :: qd) R1 ⟨rfl, rfl, ⟨false, c1, by simp, fun _ => rfl⟩, hp⟩ hk
    exact ⟨t2, s2, h2, d2, plan_n a1 b1 rfl e1, R2, hk⟩
  | skip =>
   cases p with
   | skip =>
    obtain ⟨t2, s2, h2, d2, e1, R2, hk⟩ := planK_out (pd := (i, o, .skip) :: pd) (qd := (i, o, .skip) :: qd) R1 ⟨rfl, rfl, a2, hp⟩ hk
    exact ⟨t2, s2, h2, d2, plan_n a1 b1 rfl e1, R2, hk⟩
   | l u => exact a2.elim
   | f r c j => exact a2.elim
 | .e i o m :: l, pd, qd, t, s, h, d, k, R, hp, hk => by
  rw [planK_e] at hk
  obtain ⟨v, h1, a1, a2⟩ := eK_out (d := d) R hk
  obtain ⟨t1, s1, b1, R1, hk⟩ := putK_out R a1 h h1 d
  have hp' := hp.filter (fun x => !Nat.testBit m x)
  rw [leftK_eq] at hk
  obtain ⟨c1, c2⟩ := reAll_out R1 (d := d) hp' hk
  obtain ⟨t2, s2, h2, d2, e1, R2, hk⟩ := planK_out R1 hp' c2
  exact ⟨t2, s2, h2, d2, plan_e (a2 _ b1) c1 e1, R2, hk⟩
theorem forceN_eq (n : Nat) (k : Nat → Prop) : forceN n k = k n := by cases n <;> rfl
theorem forceP_eq : ∀ (l : List PStep) (k : List PStep → Prop), forceP l k = k l
 | [], _ => rfl
 | .n i o :: r, k => by rw [forceP, forceN_eq, forceP_eq r]
 | .e i o m :: r, k => by rw [forceP, forceN_eq, forceN_eq, forceP_eq r]
theorem regK_out (R : RelT t s n) {ops : List Oper} {draw : Bool} {d : Dl} {k : Sl → Hp → Dl → Prop} (hk : regK (Pu E) E ops draw s h d k) :
  ∃ t' s' h' d', (∃ m, regRun E (callOf E (exec E m)) ops draw ⟨t, h, d, n⟩ = some ⟨t', h', d', n⟩) ∧ RelT t' s' n ∧ k s' h' d' := by
 cases draw with
 | false => exact opsK_out R hk
 | true =>
  simp only [regK] at hk
  split at hk
  ·rename_i pl hpl
   rw [forceP_eq] at hk
   obtain ⟨t', s', h', d', ⟨m, h1⟩, h2⟩ := planK_out (pd := []) (qd := []) R trivial hk
   exact ⟨t', s', h', d', ⟨m, by rw [regRun, hpl]; exact h1⟩, h2⟩
  ·exact hk.elim
def sqT (E : Env) (k : Ex → St → Prop) (b : Code) : Ex → St → Prop := fun e s => match e with
 | .normal => ∃ e2 s2, Xs E b s (e2, s2) ∧ k e2 s2
 | .exit j => k (.exit j) s
 | .ret => k .ret s
def blT (id : Nat) (k : Ex → St → Prop) : Ex → St → Prop := fun e s => match e with
 | .exit j => bif Nat.beq j id then k .normal s else k (.exit j) s
 | .normal => k .normal s
 | .ret => k .ret s
def RAt (E : Env) : Code → List Bool → (Ex → St → Prop) → St → Prop
 | c, [], k, s => ∃ e s', Xs E c s (e, s') ∧ k e s'
 | .seq a b, false :: r, k, s => RAt E a r (sqT E k b) s
 | .seq _ b, true :: r, k, s => RAt E b r k s
 | .cond _ a _, false :: r, k, s => RAt E a r k s
 | .cond _ _ b, true :: r, k, s => RAt E b r k s
 | .block id c, false :: r, k, s => RAt E c r (blT id k) s
 | .loop c, false :: r, k, s => RAt E c r (sqT E k (.loop c)) s
 | _, _, _, _ => False
theorem RAt.nil (c : Code) (k : Ex → St → Prop) (s : St) : RAt E c [] k s = ∃ e s', Xs E c s (e, s') ∧ k e s' := by cases c <;> rfl
def LabOK (E : Env) (n : Nat) (lab : Lb) (c : Code) (π : List Bool) (k : Ex → St → Prop) : Prop :=
 ∀ (r : List Bool) (s : Sl) (h : Hp) (d : Dl), lab (r.reverse ++ π) s h d → ∀ t, RelT t s n → RAt E c r k ⟨t, h, d, n⟩
theorem LabOK.step {lab : Lb} {c c' : Code} {π : List Bool} {b : Bool} {k k' : Ex → St → Prop} (H : LabOK E n lab c π k) (he : ∀ r s, RAt E c (b :: r) k s = RAt E c' r k' s) : LabOK E n lab c' (b :: π) k' := by
 intro r s h d hl t R
 rw [← he]
 exact H (b :: r) s h d (by simpa using hl) t R
def KxOK (n : Nat) (kL : Kx) (kT : Ex → St → Prop) : Prop := ∀ e s h d, kL e s h d → ∀ t, RelT t s n → kT e ⟨t, h, d, n⟩
theorem KxOK.bl {kL : Kx} {kT : Ex → St → Prop} (H : KxOK n kL kT) (id : Nat) : KxOK n (blK id kL) (blT id kT) := by
 intro e s h d hk t R
 cases e with
 | normal => exact H _ _ _ _ hk t R
 | ret => exact H _ _ _ _ hk t R
 | exit j =>
  simp only [blK] at hk
  simp only [blT]
  cases hj : Nat.beq j id with
  | true => rw [hj] at hk; exact H _ _ _ _ hk t R
  | false => rw [hj] at hk; exact H _ _ _ _ hk t R
theorem Kc_out {cut : List Bool → Bool} {lab : Lb} : ∀ (c : Code) (π : List Bool) (kT : Ex → St → Prop) (kL : Kx), LabOK E n lab c π kT → KxOK n kL kT →
  ∀ {s : Sl} {h : Hp} {d : Dl} {t : Tm}, RelT t s n → Kc (Pu E) E cut lab c π s h d kL → ∃ e s', Xs E c ⟨t, h, d, n⟩ (e, s') ∧ kT e s'
 | .skip, π, kT, kL, HL, HK, s, h, d, t, R, hk => ⟨_, _, Xs.skip _, HK _ _ _ _ hk t R⟩
 | .exit id, π, kT, kL, HL, HK, s, h, d, t, R, hk => ⟨_, _, Xs.exit _ _, HK _ _ _ _ hk t R⟩
 | .ret, π, kT, kL, HL, HK, s, h, d, t, R, hk => ⟨_, _, Xs.ret _, HK _ _ _ _ hk t R⟩
 | .region id ops draw, π, kT, kL, HL, HK, s, h, d, t, R, hk => by
  obtain ⟨t', s', h', d', h1, R', h2⟩ := regK_out R hk
  exact ⟨_, _, Xs.region h1, HK _ _ _ _ h2 t' R'⟩
 | .seq a b, π, kT, kL, HL, HK, s, h, d, t, R, hk => by
  have HLa : LabOK E n lab a (false :: π) (sqT E kT b) := HL.step fun _ _ => rfl
  have HLb : LabOK E n lab b (true :: π) kT := HL.step fun _ _ => rfl
  have HKa : KxOK n (sqK kL fun s' h' d' => bif cut (true :: π) then lab (true :: π) s' h' d' else Kc (Pu E) E cut lab b (true :: π) s' h' d' kL) (sqT E kT b) := by
   intro e s h d hk t R
   cases e with
   | exit j => exact HK _ _ _ _ hk t R
   | ret => exact HK _ _ _ _ hk t R
   | normal =>
    simp only [sqK] at hk
    simp only [sqT]
    cases hc : cut (true :: π) with
    | true =>
     rw [hc] at hk
     have := HLb [] s h d hk t R
     rwa [RAt.nil] at this
    | false => rw [hc] at hk; exact Kc_out b (true :: π) kT kL HLb HK R hk
  obtain ⟨e, s', h1, h2⟩ := Kc_out a (false :: π) _ _ HLa HKa R hk
  cases e with
  | normal =>
   obtain ⟨e2, s2, h3, h4⟩ := h2
   exact ⟨e2, s2, h1.seq h3, h4⟩
  | exit j => exact ⟨_, _, h1.seq_stop (by simp), h2⟩
  | ret => exact ⟨_, _, h1.seq_stop (by simp), h2⟩
 | .cond c a b, π, kT, kL, HL, HK, s, h, d, t, R, hk => by
  have HLa : LabOK E n lab a (false :: π) kT := HL.step fun _ _ => rfl
  have HLb : LabOK E n lab b (true :: π) kT := HL.step fun _ _ => rfl
  obtain ⟨v, h1, x, rfl, h2, h3⟩ := evK_out R hk
  cases x with
  | true =>
   obtain ⟨e, s', h4, h5⟩ := Kc_out a (false :: π) _ _ HLa HK R (h2 rfl)
   exact ⟨e, s', Xs.cond h1 h4, h5⟩
  | false =>
   obtain ⟨e, s', h4, h5⟩ := Kc_out b (true :: π) _ _ HLb HK R (h3 rfl)
   exact ⟨e, s', Xs.cond h1 h4, h5⟩
 | .block id c, π, kT, kL, HL, HK, s, h, d, t, R, hk => by
  have HLc : LabOK E n lab c (false :: π) (blT id kT) := HL.step fun _ _ => rfl
  obtain ⟨e, s', h1, h2⟩ := Kc_out c (false :: π) _ _ HLc (HK.bl id) R hk
  have := Xs.block (id := id) h1
  cases e with
  | normal => exact ⟨_, _, this, h2⟩
  | ret => exact ⟨_, _, this, h2⟩
  | exit j =>
   simp only [blT] at h2
   cases hj : Nat.beq j id with
   | true => rw [hj] at h2; simp only [hj, cond_true] at this; exact ⟨_, _, this, h2⟩
   | false => rw [hj] at h2; simp only [hj, cond_false] at this; exact ⟨_, _, this, h2⟩
 | .loop c, π, kT, kL, HL, HK, s, h, d, t, R, hk => by
  have := HL [] s h d hk t R
  rwa [RAt.nil] at this
 | .scope _, _, _, _, _, _, _, _, _, _, _, hk => hk.elim
 | .rangeFunc .., _, _, _, _, _, _, _, _, _, _, hk => hk.elim
 | .goto _, _, _, _, _, _, _, _, _, _, _, hk => hk.elim
 | .label _, _, _, _, _, _, _, _, _, _, _, hk => hk.elim
 | .refuse _, _, _, _, _, _, _, _, _, _, _, hk => hk.elim
end
end Go.Proofs.YtbchdlelmkmagaaGreatDoor.VM
namespace Go.Proofs.YtbchdlelmkmagaaGreatDoor.VM
open Go
noncomputable section
variable {E : Env} {t : Tm} {s : Sl} {n : Nat} {h : Hp}
theorem sq_ok {cut : List Bool → Bool} {lab : Lb} {b : Code} {π : List Bool} {kT : Ex → St → Prop} {kL : Kx} (HLb : LabOK E n lab b (true :: π) kT) (HK : KxOK n kL kT) :
  KxOK n (sqK kL fun s' h' d' => bif cut (true :: π) then lab (true :: π) s' h' d' else Kc (Pu E) E cut lab b (true :: π) s' h' d' kL) (sqT E kT b) := by
 intro e s h d hk t R
 cases e with
 | exit j => exact HK _ _ _ _ hk t R
 | ret => exact HK _ _ _ _ hk t R
 | normal =>
  simp only [sqK] at hk
  simp only [sqT]
  cases hc : cut (true :: π) with
  | true =>
   rw [hc] at hk
   have := HLb [] s h d hk t R
   rwa [RAt.nil] at this
  | false => rw [hc] at hk; exact Kc_out b (true :: π) kT kL HLb HK R hk
theorem lp_ok {lab : Lb} {c : Code} {π : List Bool} {kT : Ex → St → Prop} {kL : Kx} (HL : LabOK E n lab (.loop c) π kT) (HK : KxOK n kL kT) : KxOK n (sqK kL (lab π)) (sqT E kT (.loop c)) := by
 intro e s h d hk t R
 cases e with
 | exit j => exact HK _ _ _ _ hk t R
 | ret => exact HK _ _ _ _ hk t R
 | normal =>
  have := HL [] s h d hk t R
  rwa [RAt.nil] at this
theorem KAt_out {cut : List Bool → Bool} {lab : Lb} : ∀ (path : List Bool) (c : Code) (π : List Bool) (kT : Ex → St → Prop) (kL : Kx), LabOK E n lab c π kT → KxOK n kL kT →
  ∀ {s : Sl} {h : Hp} {d : Dl} {t : Tm}, RelT t s n → KAt (Pu E) E cut lab c π path kL s h d → RAt E c path kT ⟨t, h, d, n⟩ := by
 intro path
 induction path with
 | nil =>
  intro c π kT kL HL HK s h d t R hk
  rw [RAt.nil]
  cases c with
  | loop b =>
   obtain ⟨e, s', h1, h2⟩ := Kc_out b (false :: π) (sqT E kT (.loop b)) _ (HL.step fun _ _ => rfl) (lp_ok HL HK) R hk
   cases e with
   | normal =>
    obtain ⟨e2, s2, h3, h4⟩ := h2
    exact ⟨e2, s2, h1.loop h3, h4⟩
   | exit j => exact ⟨_, _, h1.loop_stop (by simp), h2⟩
   | ret => exact ⟨_, _, h1.loop_stop (by simp), h2⟩
  | _ => exact Kc_out (cut := cut) _ π kT kL HL HK R hk
 | cons b r ih =>
  intro c π kT kL HL HK s h d t R hk
  cases c <;> cases b <;> first | exact hk.elim | skip
  case seq.false a b => exact ih a (false :: π) (sqT E kT b) _ (HL.step fun _ _ => rfl) (sq_ok (HL.step fun _ _ => rfl) HK) R hk
  case seq.true a b => exact ih b (true :: π) kT _ (HL.step fun _ _ => rfl) HK R hk
  case cond.false c a b => exact ih a (false :: π) kT _ (HL.step fun _ _ => rfl) HK R hk
  case cond.true c a b => exact ih b (true :: π) kT _ (HL.step fun _ _ => rfl) HK R hk
  case block.false id c => exact ih c (false :: π) (blT id kT) _ (HL.step fun _ _ => rfl) (HK.bl id) R hk
  case loop.false c => exact ih c (false :: π) (sqT E kT (.loop c)) _ (HL.step fun _ _ => rfl) (lp_ok HL HK) R hk
def finT (E : Env) (fn : Func) (Q : V → Hp → Prop) : Ex → St → Prop := fun e s => ∃ v h', finOf E fn (some (e, s)) = some (v, h') ∧ Q v h'
theorem resK_out (R : RelT t s n) {d : Dl} : ∀ {l : List ResultVar} {k : List V → Prop}, resK (Pu E) s h l k → ∃ vs, resV E ⟨t, h, d, n⟩ l = some vs ∧ k vs
 | [], k, hk => ⟨[], rfl, hk⟩
 | .tmp i :: l, k, hk => by
  obtain ⟨vs, h1, h2⟩ := resK_out R (d := d) (l := l) hk
  exact ⟨_, by rw [resV, h1, Option.bind_some, R.at_], h2⟩
 | .cell a ty :: l, k, hk => by
  obtain ⟨v, h0, hk⟩ := hk
  obtain ⟨vs, h1, h2⟩ := resK_out R (d := d) (l := l) hk
  exact ⟨_, by rw [resV, R.at_, h0, Option.bind_some, h1, Option.bind_some], h2⟩
theorem finK_ok (fn : Func) (Q : V → Hp → Prop) : KxOK n (finK (Pu E) fn Q) (finT E fn Q) := by
 intro e s h d hk t R
 have go : ∀ (hi : idleAll E d = true) (e : Ex) (he : e = .normal ∨ e = .ret), resK (Pu E) s h fn.results.toList (fun l => Q (match l with | [v] => v | l => .tup l) h) → finT E fn Q e ⟨t, h, d, n⟩ := by
  intro hi e he hk
  obtain ⟨vs, h1, h2⟩ := resK_out R (d := d) hk
  refine ⟨_, h, ?_, h2⟩
  have : finOf E fn (some (e, ⟨t, h, d, n⟩)) = endOf E fn ⟨t, h, d, n⟩ := by
   rcases he with rfl | rfl <;> simp only [finOf, hi, cond_true]
  rw [this, endOf, h1, Option.bind_some]
  cases vs with
  | nil => rfl
  | cons v r => cases r <;> rfl
 have both : ∀ e, e = .normal ∨ e = .ret → finK (Pu E) fn Q e s h d → finT E fn Q e ⟨t, h, d, n⟩ := by
  intro e he hk
  cases d with
  | nil => rcases he with rfl | rfl <;> exact go rfl _ (by simp) hk
  | cons x r => rcases he with rfl | rfl <;> exact go hk.1 _ (by simp) hk.2
 cases e with
 | exit j => exact hk.elim
 | normal => exact both _ (.inl rfl) hk
 | ret => exact both _ (.inr rfl) hk
def Lab (E : Env) (fn : Func) (c : Code) (Q : V → Hp → Prop) : Lb := fun π s h d => ∀ t, RelT t s fn.ntmps → RAt E c π.reverse (finT E fn Q) ⟨t, h, d, fn.ntmps⟩
theorem lab_ofX {fn : Func} {c : Code} {Q : V → Hp → Prop} {cut : List Bool → Bool} {lab : Lb} (hl : ∀ π s h d, lab π s h d → s.length = fn.ntmps → Lab E fn c Q π s h d) (path : List Bool) {d : Dl} (hk : KAt (Pu E) E cut lab c [] path (finK (Pu E) fn Q) s h d) : Lab E fn c Q path.reverse s h d := by
 intro t R
 rw [List.reverse_reverse]
 refine KAt_out path c [] _ _ ?_ (finK_ok fn Q) R hk
 intro r s h d h1 t R1
 have := hl _ _ _ _ h1 R1.len t R1
 simpa using this
theorem nth_append : ∀ (l : List V) (m i : Nat), nth (l ++ List.replicate m undefV) i = (l[i]?).getD undefV
 | [], m, i => by
  have : ∀ m i, nth (List.replicate m undefV) i = undefV := by
   intro m
   induction m with
   | zero => intro i; rfl
   | succ m ih => intro i; cases i with
    | zero => rfl
    | succ i => exact ih i
  simp [this]
 | v :: l, m, 0 => by simp [nth_zero]
 | v :: l, m, i + 1 => by simp [nth_succ, nth_append l m i]
theorem ans_of {f : Nat} {fn : Func} {c : Code} {al : List V} {Q : V → Hp → Prop} (hk : E.hook f = none) (hf : E.fn.get f = some fn) (hb : fn.body = some c) (hl0 : Nat.ble al.length fn.ntmps = true) (H : Lab E fn c Q [] (al ++ List.replicate (fn.ntmps - al.length) undefV) h []) : Ans E f al h Q := by
 have hl := Nat.le_of_ble_eq_true hl0
 have R : RelT (T.ofL (al.map some) 0 .leaf) (al ++ List.replicate (fn.ntmps - al.length) undefV) fn.ntmps := by
  refine ⟨by simp; omega, fun i => ?_⟩
  rw [nth_append, T.get_ofL, T.get_leaf]
  split
  ·rename_i hi
   simp at hi
   simp [hi]
  ·rename_i hi
   simp at hi
   simp [List.getElem?_eq_none hi]
 have := H _ R
 rw [List.reverse_nil, RAt.nil] at this
 obtain ⟨e, s', hx, v, h', h1, h2⟩ := this
 exact ⟨v, h', Cs.of hk hf hb hl hx h1, h2⟩
theorem eqB_eq : ∀ {a b : List Bool}, eqB a b = true → a = b
 | [], [], _ => rfl
 | [], _ :: _, h => by cases h
 | true :: _, [], h => by cases h
 | false :: _, [], h => by cases h
 | true :: a, true :: b, h => by rw [eqB_eq (a := a) (b := b) h]
 | false :: a, false :: b, h => by rw [eqB_eq (a := a) (b := b) h]
 | true :: a, false :: b, h => by cases h
 | false :: a, true :: b, h => by cases h
def nths (s : Sl) : Nat → Nat → Sl
 | 0, _ => []
 | n + 1, i => nth s i :: nths s n (i + 1)
theorem nths_cons (v : V) (l : Sl) : ∀ n i, nths (v :: l) n (i + 1) = nths l n i
 | 0, _ => rfl
 | n + 1, i => by rw [nths, nths, nths_cons v l n (i + 1)]; rfl
theorem nth_all : ∀ {s : Sl} {n : Nat}, s.length = n → s = nths s n 0
 | [], _, h => by subst h; rfl
 | v :: l, _, h => by
  subst h
  rw [List.length_cons, nths, nths_cons, ← nth_all (s := l) rfl]
  rfl
end
end Go.Proofs.YtbchdlelmkmagaaGreatDoor.VM
namespace Go.Proofs.YtbchdlelmkmagaaGreatDoor.VM
open Go
noncomputable section
@[reducible] def syZ : Sy := ⟨fun _ => 0, fun _ => [], [], fun g => (g, 0)⟩
attribute [local instance] syZ
variable {E : Env}
theorem ilt_dec (a b : Int) : ilt a b = decide (a < b) := by
 cases a <;> cases b <;> simp only [ilt] <;> rw [Bool.eq_iff_iff] <;> simp [Nat.blt_eq] <;> omega
theorem ieq_dec (a b : Int) : ieq a b = decide (a = b) := by
 cases a <;> cases b <;> simp only [ieq] <;> rw [Bool.eq_iff_iff] <;> simp [Nat.beq_eq] <;> omega
theorem keq_refl (k : IntKind) : keq k k = true := by cases k <;> rfl
theorem seq_dec : ∀ (a b : List Nat), seq a b = decide (a = b)
 | [], [] => rfl
 | [], _ :: _ => rfl
 | _ :: _, [] => rfl
 | a :: x, b :: y => by
  rw [seq, seq_dec x y]
  by_cases h : a = b
  ·subst h; simp
  ·have : Nat.beq a b = false := by rw [Bool.eq_false_iff]; simpa [Nat.beq_eq] using h
   simp [this, h]
theorem natOf_nat (n : Nat) : natOf (n : Int) = some n := rfl
theorem pu_cond (c : Bool) (a b : Unit → Prop) : (Pu E).cond (.bool c) a b ↔ (c = true → a ()) ∧ (c = false → b ()) :=
 ⟨fun ⟨x, h1, h2⟩ => by cases h1; exact h2, fun h => ⟨c, rfl, h⟩⟩
theorem pu_cond_t (a b : Unit → Prop) : (Pu E).cond (.bool true) a b ↔ a () := by simp [pu_cond]
theorem pu_cond_f (a b : Unit → Prop) : (Pu E).cond (.bool false) a b ↔ b () := by simp [pu_cond]
theorem pu_cond_d (p : Prop) [Decidable p] (a b : Unit → Prop) : (Pu E).cond (.bool (decide p)) a b ↔ (p → a ()) ∧ (¬ p → b ()) := by simp [pu_cond]
theorem pu_cond_n (p : Prop) [Decidable p] (a b : Unit → Prop) : (Pu E).cond (.bool (!decide p)) a b ↔ (¬ p → a ()) ∧ (p → b ()) := by simp [pu_cond]
theorem pu_bin (op : BinOp) (t : Nat) (cx cy : Bool) (k j : IntKind) (a b : Int) (q : V → Prop) : (Pu E).bin op t cx cy (.int k a) (.int j b) q ↔ ∃ v, vbin op (.int k a) (.int j b) = some v ∧ q v := Iff.rfl
theorem ex_some {α : Type} {a : α} {q : α → Prop} : (∃ v, some a = some v ∧ q v) ↔ q a := by simp
theorem pu_add (t : Nat) (cx cy : Bool) (k : IntKind) (a b : Int) (q : V → Prop) : (Pu E).bin .add t cx cy (.int k a) (.int k b) q ↔ q (.int k (k.wrap (a + b))) := by
 rw [pu_bin]; simp only [vbin, keq_refl, cond_true, mkInt_eq, ex_some]
theorem pu_sub (t : Nat) (cx cy : Bool) (k : IntKind) (a b : Int) (q : V → Prop) : (Pu E).bin .sub t cx cy (.int k a) (.int k b) q ↔ q (.int k (k.wrap (a - b))) := by
 rw [pu_bin]; simp only [vbin, keq_refl, cond_true, mkInt_eq, ex_some]
theorem pu_mul (t : Nat) (cx cy : Bool) (k : IntKind) (a b : Int) (q : V → Prop) : (Pu E).bin .mul t cx cy (.int k a) (.int k b) q ↔ q (.int k (k.wrap (a * b))) := by
 rw [pu_bin]; simp only [vbin, keq_refl, cond_true, mkInt_eq, ex_some]
theorem pu_quo (t : Nat) (cx cy : Bool) (k : IntKind) (a b : Int) (hb : b ≠ 0) (q : V → Prop) : (Pu E).bin .quo t cx cy (.int k a) (.int k b) q ↔ q (.int k (k.wrap (a.tdiv b))) := by
 rw [pu_bin]; simp only [vbin, keq_refl, cond_true, mkInt_eq, ieq_dec, hb, decide_false, cond_false, ex_some]
theorem pu_rem (t : Nat) (cx cy : Bool) (k : IntKind) (a b : Int) (hb : b ≠ 0) (q : V → Prop) : (Pu E).bin .rem t cx cy (.int k a) (.int k b) q ↔ q (.int k (a.tmod b)) := by
 rw [pu_bin]; simp only [vbin, keq_refl, cond_true, mkInt_eq, ieq_dec, hb, decide_false, cond_false, ex_some]
theorem pu_lss (t : Nat) (cx cy : Bool) (k : IntKind) (a b : Int) (q : V → Prop) : (Pu E).bin .lss t cx cy (.int k a) (.int k b) q ↔ q (.bool (decide (a < b))) := by
 rw [pu_bin]; simp only [vbin, keq_refl, cond_true, ilt_dec, ex_some]
theorem pu_gtr (t : Nat) (cx cy : Bool) (k : IntKind) (a b : Int) (q : V → Prop) : (Pu E).bin .gtr t cx cy (.int k a) (.int k b) q ↔ q (.bool (decide (b < a))) := by
 rw [pu_bin]; simp only [vbin, keq_refl, cond_true, ilt_dec, ex_some]
theorem not_lt_dec (a b : Int) : (!decide (b < a)) = decide (a ≤ b) := by rw [Bool.eq_iff_iff]; simp
theorem pu_leq (t : Nat) (cx cy : Bool) (k : IntKind) (a b : Int) (q : V → Prop) : (Pu E).bin .leq t cx cy (.int k a) (.int k b) q ↔ q (.bool (decide (a ≤ b))) := by
 rw [pu_bin]; simp only [vbin, keq_refl, cond_true, ilt_dec, not_lt_dec, ex_some]
theorem pu_geq (t : Nat) (cx cy : Bool) (k : IntKind) (a b : Int) (q : V → Prop) : (Pu E).bin .geq t cx cy (.int k a) (.int k b) q ↔ q (.bool (decide (b ≤ a))) := by
 rw [pu_bin]; simp only [vbin, keq_refl, cond_true, ilt_dec, not_lt_dec, ex_some]
theorem pu_eql (t : Nat) (cx cy : Bool) (k : IntKind) (a b : Int) (q : V → Prop) : (Pu E).bin .eql t cx cy (.int k a) (.int k b) q ↔ q (.bool (decide (a = b))) := by
 rw [pu_bin]; simp only [vbin, keq_refl, cond_true, ieq_dec, ex_some]
theorem pu_neq (t : Nat) (cx cy : Bool) (k : IntKind) (a b : Int) (q : V → Prop) : (Pu E).bin .neq t cx cy (.int k a) (.int k b) q ↔ q (.bool (!decide (a = b))) := by
 rw [pu_bin]; simp only [vbin, keq_refl, cond_true, ieq_dec, ex_some]
theorem pu_not (b : Bool) (q : V → Prop) : (Pu E).un .not (.bool b) q ↔ q (.bool (!b)) := by
 show (∃ v, vun .not (.bool b) = some v ∧ q v) ↔ _
 simp only [vun, ex_some]
theorem pu_seql (t : Nat) (cx cy : Bool) (a b : List Nat) (q : V → Prop) : (Pu E).bin .eql t cx cy (.str a) (.str b) q ↔ q (.bool (decide (a = b))) := by
 show (∃ v, vbin .eql (.str a) (.str b) = some v ∧ q v) ↔ _
 simp only [vbin, seq_dec, ex_some]
theorem pu_sneq (t : Nat) (cx cy : Bool) (a b : List Nat) (q : V → Prop) : (Pu E).bin .neq t cx cy (.str a) (.str b) q ↔ q (.bool (!decide (a = b))) := by
 show (∃ v, vbin .neq (.str a) (.str b) = some v ∧ q v) ↔ _
 simp only [vbin, seq_dec, ex_some]
theorem pu_slss (t : Nat) (cx cy : Bool) (a b : List Nat) (q : V → Prop) : (Pu E).bin .lss t cx cy (.str a) (.str b) q ↔ q (.bool (slt a b)) := by
 show (∃ v, vbin .lss (.str a) (.str b) = some v ∧ q v) ↔ _
 simp only [vbin, ex_some]
theorem pu_sgeq (t : Nat) (cx cy : Bool) (a b : List Nat) (q : V → Prop) : (Pu E).bin .geq t cx cy (.str a) (.str b) q ↔ q (.bool (!slt a b)) := by
 show (∃ v, vbin .geq (.str a) (.str b) = some v ∧ q v) ↔ _
 simp only [vbin, ex_some]
theorem pu_sadd (t : Nat) (cx cy : Bool) (a b : List Nat) (h : a.length + b.length ≤ 1048576) (q : V → Prop) : (Pu E).bin .add t cx cy (.str a) (.str b) q ↔ q (.str (a ++ b)) := by
 show (∃ v, vbin .add (.str a) (.str b) = some v ∧ q v) ↔ _
 simp only [vbin, Nat.ble_eq_true_of_le h, cond_true, ex_some]
theorem pu_sidx (t : Nat) (i : TI) (ht : E.ty.get t = some i) (hk : i.k = .str) (s : List Nat) (k : IntKind) (n : Nat) (hn : n < s.length) (q : V → Prop) : (Pu E).index t (.str s) (.int k n) q ↔ q (.int .u8 (s[n] : Nat)) := by
 show (∃ v, vindex E t (.str s) (.int k n) = some v ∧ q v) ↔ _
 simp only [vindex, natOf_nat, ht, Option.bind_some, hk, List.getElem?_eq_getElem hn, ex_some]
 rfl
theorem pu_slen (t : TypeId) (i : TI) (h : Hp) (ht : E.ty.get t = some i) (hk : i.k = .str) (s : List Nat) (q : V → Prop) : (Pu E).lbui h #[t] .len [.str s] q ↔ q (.int .i64 s.length) := by
 show (∃ v, lBuiltin E h #[t] .len [.str s] = some v ∧ q v) ↔ _
 have : (#[t] : Array TypeId)[0]? = some t := rfl
 simp only [lBuiltin, bLen, vlen, this, ht, Option.bind_some, hk, mkInt_eq, ex_some]
 rfl
theorem bound_nat (n most d : Nat) (k : IntKind) (h : n ≤ most) : bound (some (.int k n)) most d = some n := by
 simp only [bound, natOf_nat, Option.bind_some, Nat.ble_eq_true_of_le h, cond_true]
theorem pu_conv_int (h : Hp) (s d : Nat) (i j : TI) (k k' : IntKind) (hs : E.ty.get s = some i) (hd : E.ty.get d = some j) (hj : j.k = .int k) (n : Int) (q : V → Prop) : (Pu E).conv h s d (.int k' n) q ↔ q (.int k (k.wrap n)) := by
 show (∃ v, vconv E h s d (.int k' n) = some v ∧ q v) ↔ _
 simp only [vconv, hs, hd, Option.bind_some, hj, mkInt_eq, ex_some]
end
end Go.Proofs.YtbchdlelmkmagaaGreatDoor.VM
namespace Go.Proofs.YtbchdlelmkmagaaGreatDoor.VM
open Go
noncomputable section
attribute [local instance] syZ
variable {E : Env}
def IsSl (E : Env) (t e : Nat) : Prop := ∃ i, E.ty.get t = some i ∧ i.k = .sl e
theorem isSl {t e : Nat} (h : (E.ty.get t).map (·.k) = some (.sl e)) : IsSl E t e := by
 obtain ⟨i, h1, h2⟩ := Option.map_eq_some_iff.1 h; exact ⟨i, h1, h2⟩
def IsStr (E : Env) (t : Nat) : Prop := ∃ i, E.ty.get t = some i ∧ i.k = .str
theorem isStr_ {t : Nat} (h : (E.ty.get t).map (·.k) = some .str) : IsStr E t := by
 obtain ⟨i, h1, h2⟩ := Option.map_eq_some_iff.1 h; exact ⟨i, h1, h2⟩
def IsInt (E : Env) (t : Nat) (k : IntKind) : Prop := ∃ i, E.ty.get t = some i ∧ i.k = .int k
theorem isInt {t : Nat} {k : IntKind} (h : (E.ty.get t).map (·.k) = some (.int k)) : IsInt E t k := by
 obtain ⟨i, h1, h2⟩ := Option.map_eq_some_iff.1 h; exact ⟨i, h1, h2⟩
structure El (E : Env) (e sz : Nat) (z : List V) (ag : Bool) : Prop where
 out : ∃ j, E.ty.get e = some j ∧ j.size = sz ∧ j.zero = some z ∧ j.bytes ≤ 65536 ∧ (match j.k with | .struct _ => true | .arr .. => true | _ => false) = ag
 len : z.length = sz
theorem el_of {e sz : Nat} {z : List V} {ag : Bool} (h : (E.ty.get e).map (fun j => (j.size, j.zero, Nat.ble j.bytes 65536, (match j.k with | .struct _ => true | .arr .. => true | _ => false))) = some (sz, some z, true, ag)) (hz : Nat.beq z.length sz = true) : El E e sz z ag := by
 obtain ⟨j, h1, h2⟩ := Option.map_eq_some_iff.1 h
 simp only [Prod.mk.injEq] at h2
 exact ⟨⟨j, h1, h2.1, h2.2.1, Nat.le_of_ble_eq_true h2.2.2.1, h2.2.2.2⟩, Nat.eq_of_beq_eq_true hz⟩
structure Ext (N : Nat) (h h' : Hp) : Prop where
 n : h.n ≤ h'.n
 old : ∀ b, b < N → h'.t.get b = h.t.get b
theorem Ext.refl (N : Nat) (h : Hp) : Ext N h h := ⟨Nat.le_refl _, fun _ _ => rfl⟩
theorem Ext.trans {N : Nat} {a b c : Hp} (h : Ext N a b) (k : Ext N b c) : Ext N a c := ⟨Nat.le_trans h.n k.n, fun i hi => (k.old i hi).trans (h.old i hi)⟩
theorem Ext.mono {N M : Nat} {a b : Hp} (h : Ext N a b) (hm : M ≤ N) : Ext M a b := ⟨h.n, fun i hi => h.old i (by omega)⟩
theorem Ext.new {N : Nat} {h : Hp} (hn : N ≤ h.n) (b : Blk) : Ext N h (h.new b) := ⟨Nat.le_succ _, fun i hi => by rw [Hp.get_new, if_neg (by omega)]⟩
theorem Ext.set {N : Nat} {h : Hp} {b : Nat} (hn : N ≤ b) (k : Blk) : Ext N h (h.set b k) := ⟨Nat.le_refl _, fun i hi => by rw [Hp.get_set, if_neg (by omega)]⟩
def blkOf : V → Option Nat
 | .sl b _ _ _ => some b
 | .slo b _ _ _ _ => some b
 | .ptr b _ => some b
 | .mp b => some b
 | _ => none
def In (N : Nat) (v : V) : Prop := ∀ b, blkOf v = some b → b < N
theorem In.mono {N M : Nat} {v : V} (h : In N v) (hm : N ≤ M) : In M v := fun b hb => Nat.lt_of_lt_of_le (h b hb) hm
structure Rd (h : Hp) (sz : Nat) (v : V) (len : Nat) (cs : List V) : Prop where
 sized : cs.length = len * sz
 at_ : ((v = .nils ∨ v = .emp) ∧ len = 0) ∨ ∃ b off vs, rdCells h b = some vs ∧ sub vs off (len * sz) = some cs ∧ ((∃ cap, v = .sl b off len cap) ∨ ∃ lo z, v = .slo b off len lo z)
theorem Rd.ext {N : Nat} {h h' : Hp} {sz : Nat} {v : V} {len : Nat} {cs : List V} (r : Rd h sz v len cs) (x : Ext N h h') (hi : In N v) : Rd h' sz v len cs := by
 refine ⟨r.sized, r.at_.imp id ?_⟩
 rintro ⟨b, off, vs, h1, h2, h3⟩
 refine ⟨b, off, vs, ?_, h2, h3⟩
 have hb : b < N := hi b (by rcases h3 with ⟨c, rfl⟩ | ⟨lo, z, rfl⟩ <;> rfl)
 unfold rdCells at h1 ⊢
 rw [x.old b hb]
 exact h1
theorem pu_len {h : Hp} {sz : Nat} {v : V} {len : Nat} {cs : List V} (r : Rd h sz v len cs) {t e : TypeId} (ht : IsSl E t e) (h0 : Hp) (q : V → Prop) : (Pu E).lbui h0 #[t] .len [v] q ↔ q (.int .i64 len) := by
 obtain ⟨i, h1, h2⟩ := ht
 show (∃ u, lBuiltin E h0 #[t] .len [v] = some u ∧ q u) ↔ _
 have e0 : (#[t] : Array TypeId)[0]? = some t := rfl
 rcases r.at_ with ⟨rfl | rfl, rfl⟩ | ⟨b, off, vs, _, _, ⟨c, rfl⟩ | ⟨lo, z, rfl⟩⟩ <;> simp only [lBuiltin, bLen, vlen, e0, h1, Option.bind_some, h2, ex_some] <;> rfl
def elemAt (ag : Bool) (sz : Nat) (cs : List V) (i : Nat) : V := if ag then .agg ((cs.drop (i * sz)).take sz) else (cs[i]?).getD undefV
theorem mul_lt {i len sz : Nat} (hi : i < len) : i * sz + sz ≤ len * sz := by
 have := Nat.mul_le_mul_right sz (show i + 1 ≤ len by omega)
 rwa [Nat.succ_mul] at this
theorem part_sub {vs cs : List V} {off len sz i : Nat} (hs : sub vs off (len * sz) = some cs) (hi : i < len) : (vs.drop (off + i * sz)).take sz = (cs.drop (i * sz)).take sz := by
 obtain ⟨h1, h2, _⟩ := sub_some hs
 subst h1
 have := mul_lt (sz := sz) hi
 rw [List.drop_take, List.take_take, List.drop_drop, Nat.min_eq_left (by omega)]
theorem rd_at {h : Hp} {sz : Nat} {v : V} {len : Nat} {cs : List V} (r : Rd h sz v len cs) {t e : TypeId} (ht : IsSl E t e) {z : List V} {ag : Bool} (he : El E e sz z ag) (hsz : ag = false → sz = 1) (hpos : 0 < sz) {i : Nat} (hi : i < len) :
  ∃ b o, blkOf v = some b ∧ (∀ (k : IntKind) (q : V → Prop), (Pu E).iaddr t v (.int k i) q ↔ q (.ptr b o)) ∧ (∀ q : V → Prop, (Pu E).load h e (.ptr b o) q ↔ q (elemAt ag sz cs i)) ∧
   ∃ vs, rdCells h b = some vs ∧ (vs.drop o).take sz = (cs.drop (i * sz)).take sz ∧ o + sz ≤ vs.length := by
 obtain ⟨ti, h1, h2⟩ := ht
 obtain ⟨⟨j, h3, h4, h5, h6, h7⟩, h8⟩ := he
 subst h4
 rcases r.at_ with ⟨_, rfl⟩ | ⟨b, off, vs, hv, hs, hk⟩
 ·omega
 ·obtain ⟨s1, s2, _⟩ := sub_some hs
  have hm := mul_lt (sz := j.size) hi
  have hlen : (vs.drop (off + i * j.size)).take j.size = (cs.drop (i * j.size)).take j.size := part_sub hs hi
  have hll : ((cs.drop (i * j.size)).take j.size).length = j.size := by simp only [List.length_take, List.length_drop, r.sized]; omega
  have hvl : (off + i * j.size) + j.size ≤ vs.length := by
   have := congrArg List.length hlen
   rw [hll] at this
   simp only [List.length_take, List.length_drop] at this
   omega
  refine ⟨b, off + i * j.size, by rcases hk with ⟨c, rfl⟩ | ⟨lo, z, rfl⟩ <;> rfl, fun k q => ?_, fun q => ?_, ?_⟩
  ·show (∃ u, vindexAddr E t v (.int k i) = some u ∧ q u) ↔ _
   have hbl : Nat.blt i len = true := by rw [Nat.blt_eq]; exact hi
   rcases hk with ⟨c, rfl⟩ | ⟨lo, z, rfl⟩ <;> simp only [vindexAddr, natOf_nat, h1, Option.bind_some, h2, h3, hbl, cond_true, ex_some]
  ·show (∃ u, vload E h e (.ptr b (off + i * j.size)) = some u ∧ q u) ↔ _
   simp only [vload, hv, Option.bind_some, partV, h3]
   cases ag with
   | true =>
    have hsub : sub vs (off + i * j.size) j.size = some ((cs.drop (i * j.size)).take j.size) := by
     unfold sub
     simp only [hlen, hll, Nat.beq_refl, cond_true]
    split at h7 <;> first | (cases h7; done) | skip
    ·rename_i fs hks
     rw [hks]; simp only [hsub, Option.bind_some, elemAt, if_true, ex_some]
    ·rename_i n e' hks
     rw [hks]; simp only [hsub, Option.bind_some, elemAt, if_true, ex_some]
   | false =>
    have h1s := hsz rfl
    rw [h1s] at hlen hll hvl hm ⊢
    have hg : vs[off + i * 1]? = cs[i]? := by
     have e1 : ((vs.drop (off + i * 1)).take 1)[0]? = ((cs.drop (i * 1)).take 1)[0]? := by rw [hlen]
     simpa using e1
    have hci : cs[i]? = some cs[i]! := by
     have : i < cs.length := by rw [r.sized, h1s]; omega
     simp [this]
    have key : (match j.k with | .struct _ => (sub vs (off + i * 1) 1).bind fun l => some (V.agg l) | .arr _ _ => (sub vs (off + i * 1) 1).bind fun l => some (V.agg l) | _ => vs[off + i * 1]?) = vs[off + i * 1]? := by
     split at h7 <;> first | (cases h7; done) | rfl
    have key2 : ∀ (A B : Option V), A = B → ((∃ u, A = some u ∧ q u) ↔ (∃ u, B = some u ∧ q u)) := fun A B h => by rw [h]
    refine (key2 _ _ key).trans ?_
    rw [hg, hci]
    simp only [elemAt, hci, Option.getD_some, ex_some, Bool.false_eq_true, if_false]
  ·exact ⟨vs, hv, hlen, hvl⟩
structure Own (N : Nat) (h : Hp) (v : V) (el sz len : Nat) (cs : List V) : Prop where
 sized : cs.length = len * sz
 at_ : (v = .nils ∧ len = 0) ∨ ∃ b, N ≤ b ∧ b < h.n ∧ h.t.get b = some (.cells cs el false) ∧ (v = .slo b 0 len len sz ∨ v = .sl b 0 len len)
theorem Own.nil (N : Nat) (h : Hp) (el sz : Nat) : Own N h .nils el sz 0 [] := ⟨by simp, .inl ⟨rfl, rfl⟩⟩
theorem sub_all {cs : List V} {n : Nat} (h : cs.length = n) : sub cs 0 n = some cs := by
 subst h
 unfold sub
 simp
theorem Own.rd {N : Nat} {h : Hp} {v : V} {el sz len : Nat} {cs : List V} (o : Own N h v el sz len cs) : Rd h sz v len cs := by
 refine ⟨o.sized, o.at_.imp (fun h => ⟨.inl h.1, h.2⟩) ?_⟩
 rintro ⟨b, _, _, h1, h2⟩
 refine ⟨b, 0, cs, by unfold rdCells; rw [h1], sub_all o.sized, ?_⟩
 rcases h2 with rfl | rfl
 ·exact .inr ⟨_, _, rfl⟩
 ·exact .inl ⟨_, rfl⟩
theorem Own.in_ {N : Nat} {h : Hp} {v : V} {el sz len : Nat} {cs : List V} (o : Own N h v el sz len cs) : In h.n v := by
 intro b hb
 rcases o.at_ with ⟨rfl, _⟩ | ⟨c, _, h1, _, rfl | rfl⟩ <;> cases hb <;> exact h1
theorem Own.ge {N : Nat} {h : Hp} {v : V} {el sz len : Nat} {cs : List V} (o : Own N h v el sz len cs) : ∀ b, blkOf v = some b → N ≤ b := by
 intro b hb
 rcases o.at_ with ⟨rfl, _⟩ | ⟨c, h0, _, _, rfl | rfl⟩ <;> cases hb <;> exact h0
theorem Own.keep {N : Nat} {h h' : Hp} {v : V} {el sz len : Nat} {cs : List V} (o : Own N h v el sz len cs) (hn : h.n ≤ h'.n) (hk : ∀ c, blkOf v = some c → h'.t.get c = h.t.get c) : Own N h' v el sz len cs := by
 refine ⟨o.sized, o.at_.imp id ?_⟩
 rintro ⟨b, h0, h1, h2, h3⟩
 exact ⟨b, h0, by omega, by rw [hk b (by rcases h3 with rfl | rfl <;> rfl)]; exact h2, h3⟩
theorem Own.mono {N M : Nat} {h : Hp} {v : V} {el sz len : Nat} {cs : List V} (o : Own N h v el sz len cs) (hm : M ≤ N) : Own M h v el sz len cs :=
 ⟨o.sized, o.at_.imp id fun ⟨b, h0, h1⟩ => ⟨b, by omega, h1⟩⟩
theorem appOK_of {sz : Nat} {z : List V} {j : TI} {need : Nat} (h5 : j.zero = some z) (h4 : j.size = sz) (h6 : j.bytes ≤ 65536) (h8 : z.length = sz) (hn : need ≤ 1048576) : appOK j need = true := by
 simp only [appOK, Nat.ble_eq_true_of_le hn, Nat.ble_eq_true_of_le h6, h5, Option.getD_some, h4, h8, Nat.beq_refl, Option.isSome_some, Bool.and_self]
theorem elemsW_of {h : Hp} {sz : Nat} {y : V} {p : List V × Nat} (hy : elemsV h sz y = some p) : elemsW E h sz y = some p := by
 cases y <;> first | exact hy | (cases hy; done)
theorem own_append {N : Nat} {h : Hp} {v y : V} {e sz len n : Nat} {cs ws : List V} (o : Own N h v e sz len cs) {ts : Array TypeId} {t u : TypeId} (ht0 : ts[0]? = some t) (ht1 : ts[1]? = some u) (ht : IsSl E t e) (hu : ∃ iu, E.ty.get u = some iu ∧ ∀ k, iu.k ≠ .int k) {z : List V} {ag : Bool} (he : El E e sz z ag)
  (hy : elemsV h sz y = some (ws, n)) (hst : isStr y = true → sz = 1) (hw : allCells ws = true) (hlen : len + n ≤ 1048576) (hN : N ≤ h.n) :
  ∃ v' h', (∀ q, (Pu E).ebui h ts .append [v, y] q ↔ q v' h') ∧ Own N h' v' e sz (len + n) (cs ++ ws) ∧ Ext N h h' ∧ (∀ c, c < h.n → blkOf v ≠ some c → h'.t.get c = h.t.get c) ∧ (∀ c, blkOf v' = some c → blkOf v = some c ∨ h.n ≤ c) := by
 obtain ⟨ti, h1, h2⟩ := ht
 obtain ⟨iu, h3, h4⟩ := hu
 obtain ⟨⟨j, h5, h6, h7, h8, _⟩, h9⟩ := he
 subst h6
 have hwl : ws.length = n * j.size := elems_len hy hst
 have hss : (!isStr y || Nat.beq j.size 1) = true := by
  cases hc : isStr y with
  | false => rfl
  | true => simp [hst hc]
 have hred : vappend E h ts v y = appTo h e j v ws n := by
  simp only [vappend, ht0, ht1, Option.bind_some, h3, h1, h2]
  simp only [h5, Option.bind_some, hss, cond_true, elemsW_of hy]
 have fin : ∀ {v' : V} {h' : Hp}, appTo h e j v ws n = some (v', h') → ∀ q : V → Hp → Prop, (Pu E).ebui h ts .append [v, y] q ↔ q v' h' := by
  intro v' h' ha q
  show (∃ r, ebuiV E h ts .append [v, y] = some r ∧ q r.1 r.2) ↔ _
  have : ebuiV E h ts .append [v, y] = some (v', h') := hred.trans ha
  rw [this]
  simp
 have hok := appOK_of (need := len + n) h7 rfl h8 h9 hlen
 have hsz : (cs ++ ws).length = (len + n) * j.size := by rw [List.length_append, o.sized, hwl, Nat.add_mul]
 rcases o.at_ with ⟨rfl, rfl⟩ | ⟨b, hb, hbn, hg, hv⟩
 ·have hcs : cs = [] := by have := o.sized; simpa using this
  subst hcs
  by_cases hn : n = 0
  ·subst hn
   have hws : ws = [] := by simpa using hwl
   subst hws
   refine ⟨.nils, h, fin rfl, ?_, Ext.refl _ _, fun _ _ _ => rfl, fun c hc => by cases hc⟩
   exact ⟨hsz, .inl ⟨rfl, rfl⟩⟩
  ·have hnb : Nat.beq n 0 = false := by rw [Bool.eq_false_iff]; simpa [Nat.beq_eq] using hn
   rw [Nat.zero_add] at hok
   refine ⟨.slo h.n 0 n n j.size, h.new (.cells ws e false), fin (by simp only [appTo, hnb, cond_false, hok, cond_true]), ?_, Ext.new hN _, fun c hc _ => by rw [Hp.get_new, if_neg (by omega)], fun c hc => by cases hc; exact .inr (Nat.le_refl _)⟩
   refine ⟨hsz, .inr ⟨h.n, hN, Nat.lt_succ_self _, by rw [Hp.get_new, if_pos rfl]; rfl, .inl (by rw [Nat.zero_add])⟩⟩
 ·have hrd : rdCells h b = some cs := by unfold rdCells; rw [hg]
  by_cases hn : n = 0
  ·subst hn
   have hws : ws = [] := by simpa using hwl
   subst hws
   have hwr : wrCells h b (0 + len * j.size) [] = some (h.set b (.cells cs e false)) := by
    unfold wrCells
    rw [hg]
    simp only [allCells, cond_true]
    have : spl cs (0 + len * j.size) [] = some cs := by cases cs <;> rfl
    rw [this]; rfl
   have hget : ∀ c, (h.set b (.cells cs e false)).t.get c = h.t.get c := fun c => by
    rw [Hp.get_set]; split
    ·rename_i e; rw [e, hg]
    ·rfl
   have hle : Nat.ble (len + 0) len = true := by simp
   refine ⟨v, h.set b (.cells cs e false), fin ?_, ?_, Ext.set hb _, fun c _ _ => hget c, fun c hc => .inl hc⟩
   ·rcases hv with rfl | rfl
    ·simp only [appTo, Nat.beq_refl, hle, cond_true, hwr, Option.bind_some]; rfl
    ·simp only [appTo, hle, cond_true, hwr, Option.bind_some]; rfl
   ·refine ⟨hsz, .inr ⟨b, hb, hbn, ?_, hv⟩⟩
    rw [Hp.get_set, if_pos rfl, List.append_nil]
  ·have hle : Nat.ble (len + n) len = false := by rw [Bool.eq_false_iff]; simp [Nat.ble_eq]; omega
   rcases hv with rfl | rfl
   ·have hgr : grow h e b j.size len n ws = some (.slo h.n 0 (len + n) (len + n) j.size, (h.new (.cells (cs ++ ws) e false)).set b .dead) := by
     unfold grow
     rw [hg]
     simp only [o.sized, Nat.beq_refl, hw, Bool.and_self, cond_true]
    refine ⟨.slo h.n 0 (len + n) (len + n) j.size, (h.new (.cells (cs ++ ws) e false)).set b .dead, fin (by simp only [appTo, Nat.beq_refl, hle, cond_true, cond_false, hok, Bool.and_self, hgr]), ?_, ⟨Nat.le_succ _, fun i hi => ?_⟩, fun c hc hne => ?_, fun c hc => by cases hc; exact .inr (Nat.le_refl _)⟩
    ·exact ⟨hsz, .inr ⟨h.n, hN, Nat.lt_succ_self _, by rw [Hp.get_set, if_neg (by omega), Hp.get_new, if_pos rfl], .inl rfl⟩⟩
    ·rw [Hp.get_set, if_neg (by omega), Hp.get_new, if_neg (by omega)]
    ·have : c ≠ b := fun e => hne (by rw [e]; rfl)
     rw [Hp.get_set, if_neg this, Hp.get_new, if_neg (by omega)]
   ·have hsub := sub_all (cs := cs) o.sized
    refine ⟨.slo h.n 0 (len + n) (len + n) j.size, h.new (.cells (cs ++ ws) e false), fin (by simp only [appTo, hle, cond_false, hok, cond_true, hrd, Option.bind_some, hsub]), ?_, Ext.new hN _, fun c hc _ => by rw [Hp.get_new, if_neg (by omega)], fun c hc => by cases hc; exact .inr (Nat.le_refl _)⟩
    exact ⟨hsz, .inr ⟨h.n, hN, Nat.lt_succ_self _, by rw [Hp.get_new, if_pos rfl], .inl rfl⟩⟩
theorem elems_rd {h : Hp} {sz : Nat} {y : V} {n : Nat} {ws : List V} (r : Rd h sz y n ws) : elemsV h sz y = some (ws, n) ∧ isStr y = false := by
 rcases r.at_ with ⟨rfl | rfl, rfl⟩ | ⟨b, off, vs, h1, h2, ⟨c, rfl⟩ | ⟨lo, z, rfl⟩⟩
 ·have : ws = [] := by simpa using r.sized
  subst this
  exact ⟨rfl, rfl⟩
 ·have : ws = [] := by simpa using r.sized
  subst this
  exact ⟨rfl, rfl⟩
 ·exact ⟨by simp only [elemsV, h1, Option.bind_some, h2], rfl⟩
 ·exact ⟨by simp only [elemsV, h1, Option.bind_some, h2], rfl⟩
theorem pu_lit1 {h : Hp} {t e sz : Nat} {z : List V} {ag : Bool} (ht : IsSl E t e) (he : El E e sz z ag) (x : V) (hx : x.cells.length = sz) (hs : sz ≤ 65536) (q : V → Hp → Blk → Prop) :
  (Pu E).bsl h t 1 [(0, x)] q ↔ q (.sl h.n 0 1 1) (h.new (.cells x.cells e false)) (.cells x.cells e false) := by
 obtain ⟨ti, h1, h2⟩ := ht
 obtain ⟨⟨j, h5, h6, h7, h8, _⟩, h9⟩ := he
 subst h6
 show (∃ y, vbuildSlice E t 1 [(0, x)] = some y ∧ q (y.1.at h.n) (h.new y.2) y.2) ↔ _
 have hspl : ∀ (ws l : List V), l.length = ws.length → spl l 0 ws = some ws := by
  intro ws
  induction ws with
  | nil => intro l hl; cases l with | nil => rfl | cons _ _ => cases hl
  | cons w ws ih => intro l hl; cases l with
   | nil => cases hl
   | cons a l => simp only [spl, ih l (by simpa using hl), Option.bind_some]
 have hc : (Nat.ble (1 * j.size) 16777216 && Nat.beq ((j.zero.getD []).length) j.size) = true := by
  rw [h7, Option.getD_some, h9, Nat.beq_refl, Bool.and_true]
  exact Nat.ble_eq_true_of_le (by omega)
 have hf : fillV (placesOf j.size 0 1) (rep 1 z) [(0, x)] = some x.cells := by
  have hr : rep 1 z = z := by simp [rep]
  rw [hr]
  have hb : (Nat.beq x.cells.length j.size && Nat.ble (0 * j.size + j.size) z.length) = true := by
   rw [hx, Nat.beq_refl, Bool.true_and]
   exact Nat.ble_eq_true_of_le (by omega)
  simp only [fillV, placesOf, List.getElem?_cons_zero, Option.bind_some, hb, cond_true]
  rw [Nat.zero_mul, hspl x.cells z (by omega)]
  rfl
 rw [h7] at hc
 have : vbuildSlice E t 1 [(0, x)] = some (.sl 1 1, .cells x.cells e false) := by
  simp only [vbuildSlice, h1, Option.bind_some, h2, h5, hc, cond_true, h7, hf]
 rw [this]
 simp [Fr.at]
theorem rd_lit {h : Hp} {sz : Nat} {ws : List V} {e : Nat} (hw : ws.length = sz) : Own h.n (h.new (.cells ws e false)) (.sl h.n 0 1 1) e sz 1 ws :=
 ⟨by omega, .inr ⟨h.n, Nat.le_refl _, Nat.lt_succ_self _, by rw [Hp.get_new, if_pos rfl], .inr rfl⟩⟩
theorem bounds_to (b len cap : Nat) (j : IntKind) (hb : b ≤ cap) : bounds none (some (.int j b)) none len cap = some (0, b, cap) := by
 have e : bound none cap cap = some cap := rfl
 have e2 : bound none b 0 = some 0 := rfl
 simp only [bounds, e, Option.bind_some, bound_nat _ _ _ _ hb, e2]
theorem strV_of : ∀ {l : List Nat}, (∀ x ∈ l, x < 256) → strV (l.map fun (b : Nat) => V.int .u8 (b : Int)) = some l
 | [], _ => rfl
 | b :: l, h => by
  have hb : Nat.blt b 256 = true := by rw [Nat.blt_eq]; exact h b (by simp)
  rw [List.map_cons]
  show (bif Nat.blt b 256 then (strV (l.map fun (b : Nat) => V.int .u8 (b : Int))).bind fun l => some (b :: l) else none) = _
  rw [hb, strV_of fun x hx => h x (by simp [hx])]
  rfl
theorem strW_of {l : List Nat} (hl : ∀ x ∈ l, x < 256) : strW E (l.map fun (b : Nat) => V.int .u8 (b : Int)) = some (.str l) := by
 unfold strW
 rw [strV_of hl]
theorem pu_conv_bs {h : Hp} {v : V} {l : List Nat} (r : Rd h 1 v l.length (l.map fun (b : Nat) => V.int .u8 (b : Int))) (hl : ∀ x ∈ l, x < 256) {s d e : Nat} (hs : IsSl E s e) (he : IsInt E e .u8) (hd : IsStr E d) (q : V → Prop) : (Pu E).conv h s d v q ↔ q (.str l) := by
 obtain ⟨i, h1, h2⟩ := hs
 obtain ⟨j, h3, h4⟩ := hd
 obtain ⟨m, h5, h6⟩ := he
 show (∃ u, vconv E h s d v = some u ∧ q u) ↔ _
 have : vconv E h s d v = some (.str l) := by
  rcases r.at_ with ⟨rfl | rfl, h0⟩ | ⟨b, off, vs, hr, hs, ⟨c, rfl⟩ | ⟨lo, z, rfl⟩⟩
  ·have : l = [] := by simpa using h0
   subst this
   simp only [vconv, h1, h3, Option.bind_some, h4, h2, convStr, h5, h6]
  ·have : l = [] := by simpa using h0
   subst this
   simp only [vconv, h1, h3, Option.bind_some, h4, h2, convStr, h5, h6]
  ·rw [Nat.mul_one] at hs
   simp only [vconv, h1, h3, Option.bind_some, h4, h2, convStr, h5, h6, hr, hs, strW_of hl]
  ·rw [Nat.mul_one] at hs
   simp only [vconv, h1, h3, Option.bind_some, h4, h2, convStr, h5, h6, hr, hs, strW_of hl]
 rw [this, ex_some]
end
end Go.Proofs.YtbchdlelmkmagaaGreatDoor.VM
namespace Go.Proofs.YtbchdlelmkmagaaGreatDoor.VM
open Go
noncomputable section
attribute [local instance] syZ
variable {E : Env}
theorem fa_of {t b o f : Nat} {p : V} (h : vfieldAddr E t (.ptr b o) f = some p) (q : V → Prop) : (Pu E).faddr t (.ptr b o) f q ↔ q p := by
 show (∃ v, vfieldAddr E t (.ptr b o) f = some v ∧ q v) ↔ _
 rw [h, ex_some]
def StructOf (E : Env) (t : Nat) (pl : List (Nat × Nat)) (z : List V) : Prop := ∃ i fs, E.ty.get t = some i ∧ i.zero = some z ∧ i.k = .struct fs ∧ sizesOf E fs = some pl
theorem structOf {t : Nat} {pl : List (Nat × Nat)} {z : List V} (h : ((E.ty.get t).bind fun i => match i.k with | .struct fs => (sizesOf E fs).bind fun pl => i.zero.map fun z => (pl, z) | _ => none) = some (pl, z)) : StructOf E t pl z := by
 rw [Option.bind_eq_some_iff] at h
 obtain ⟨i, h1, h2⟩ := h
 split at h2
 ·rename_i fs hk
  rw [Option.bind_eq_some_iff] at h2
  obtain ⟨p, h3, h4⟩ := h2
  rw [Option.map_eq_some_iff] at h4
  obtain ⟨z', h5, h6⟩ := h4
  cases h6
  exact ⟨i, fs, h1, h5, hk, h3⟩
 ·cases h2
def C1 (v : V) : Prop := v.cells = [v] ∧ v.isCell = true
theorem c1_int (k : IntKind) (n : Int) : C1 (.int k n) := ⟨rfl, rfl⟩
theorem c1_str (s : List Nat) : C1 (.str s) := ⟨rfl, rfl⟩
theorem c1_bool (b : Bool) : C1 (.bool b) := ⟨rfl, rfl⟩
theorem Rd.c1 {h : Hp} {sz : Nat} {v : V} {len : Nat} {cs : List V} (r : Rd h sz v len cs) : C1 v := by
 rcases r.at_ with ⟨rfl | rfl, _⟩ | ⟨b, off, vs, _, _, ⟨c, rfl⟩ | ⟨lo, z, rfl⟩⟩ <;> exact ⟨rfl, rfl⟩
theorem spl_one : ∀ (cs : List V) (o : Nat) (v : V), o < cs.length → spl cs o [v] = some (cs.set o v)
 | [], _, _, h => by simp at h
 | c :: cs, 0, v, _ => by cases cs <;> simp [spl]
 | c :: cs, o + 1, v, h => by simp only [spl, spl_one cs o v (by simpa using h), Option.bind_some, List.set_cons_succ]
def setAll (pl : List (Nat × Nat)) : List V → List (Nat × V) → List V
 | cs, [] => cs
 | cs, (i, v) :: r => setAll pl (cs.set ((pl[i]?).getD (0, 0)).1 v) r
def placesOK (pl : List (Nat × Nat)) (n : Nat) : List (Nat × V) → Bool
 | [] => true
 | (i, _) :: r => match pl[i]? with
  | some (o, s) => Nat.beq s 1 && Nat.blt o n && placesOK pl n r
  | none => false
theorem fill_cells (pl : List (Nat × Nat)) : ∀ (ps : List (Nat × V)) (cs : List V), (∀ p ∈ ps, C1 p.2) → placesOK pl cs.length ps = true → fillV pl cs ps = some (setAll pl cs ps)
 | [], cs, _, _ => by simp [fillV, setAll]
 | (i, v) :: r, cs, hc, hp => by
  rw [placesOK] at hp
  split at hp
  ·rename_i o s hi
   simp only [Bool.and_eq_true] at hp
   obtain ⟨⟨h1, h2⟩, h3⟩ := hp
   obtain rfl := Nat.eq_of_beq_eq_true h1
   have ho : o < cs.length := by simpa [Nat.blt_eq] using h2
   have hv := (hc (i, v) (by simp)).1
   have hcells : v.cells = [v] := hv
   have hb : (Nat.beq v.cells.length 1 && Nat.ble (o + 1) cs.length) = true := by rw [hcells]; simp; omega
   rw [fillV, hi, Option.bind_some]
   simp only [hb, cond_true]
   rw [hcells, spl_one cs o v ho, Option.bind_some, setAll, hi, Option.getD_some]
   exact fill_cells pl r _ (fun p hp => hc p (by simp [hp])) (by rw [List.length_set]; exact h3)
  ·cases hp
theorem pu_build {t : Nat} {pl : List (Nat × Nat)} {z : List V} (ht : StructOf E t pl z) (ps : List (Nat × V)) (hc : ∀ p ∈ ps, C1 p.2) (hp : placesOK pl z.length ps = true) (q : V → Prop) : (Pu E).build t ps q ↔ q (.agg (setAll pl z ps)) := by
 obtain ⟨i, fs, h1, h2, h3, h4⟩ := ht
 show (∃ v, vbuild E t ps = some v ∧ q v) ↔ _
 have : vbuild E t ps = some (.agg (setAll pl z ps)) := by
  simp only [vbuild, h1, Option.bind_some, h2, h3, h4, fill_cells pl ps z hc hp]
 rw [this, ex_some]
theorem pu_alloc {e sz : Nat} {z : List V} {ag : Bool} (he : El E e sz z ag) (h : Hp) (q : V → Hp → Blk → Prop) : (Pu E).alloc h e q ↔ q (.ptr h.n 0) (h.new (.cells z e false)) (.cells z e false) := by
 obtain ⟨⟨j, h5, h6, h7, h8, _⟩, h9⟩ := he
 show (∃ x, fAlloc E e = some x ∧ q (x.1.at h.n) (h.new x.2) x.2) ↔ _
 have : fAlloc E e = some (.ptr, .cells z e false) := by simp only [fAlloc, h5, Option.bind_some, h7, newCells]
 rw [this]; simp [Fr.at]
theorem pu_box {e : Nat} {x : V} (hx : allCells x.cells = true) (h : Hp) (q : V → Hp → Blk → Prop) : (Pu E).box h e x q ↔ q (.ptr h.n 0) (h.new (.cells x.cells e false)) (.cells x.cells e false) := by
 show (∃ y, boxV e x = some y ∧ q (y.1.at h.n) (h.new y.2) y.2) ↔ _
 have : boxV e x = some (.ptr, .cells x.cells e false) := by simp only [boxV, hx, cond_true, newCells]
 rw [this]; simp [Fr.at]
theorem rdCells_of {h : Hp} {b e : Nat} {vs : List V} {ro : Bool} (hg : h.t.get b = some (.cells vs e ro)) : rdCells h b = some vs := by unfold rdCells; rw [hg]
theorem pu_load1 {e : Nat} {z : List V} (he : El E e 1 z false) {h : Hp} {b o f : Nat} {vs : List V} {ro : Bool} (hg : h.t.get b = some (.cells vs f ro)) {v : V} (hv : vs[o]? = some v) (q : V → Prop) : (Pu E).load h e (.ptr b o) q ↔ q v := by
 obtain ⟨⟨j, h3, h4, h5, h6, h7⟩, h8⟩ := he
 show (∃ u, vload E h e (.ptr b o) = some u ∧ q u) ↔ _
 have : vload E h e (.ptr b o) = some v := by
  simp only [vload, rdCells_of hg, Option.bind_some, partV, h3]
  split at h7 <;> first | (cases h7; done) | skip
  rename_i g1 g2
  split
  ·exact absurd ‹_› (g1 _)
  ·exact absurd ‹_› (g2 _ _)
  ·exact hv
 rw [this, ex_some]
theorem pu_loadS {e sz : Nat} {z : List V} (he : El E e sz z true) {h : Hp} {b o f : Nat} {vs : List V} {ro : Bool} (hg : h.t.get b = some (.cells vs f ro)) {l : List V} (hv : sub vs o sz = some l) (q : V → Prop) : (Pu E).load h e (.ptr b o) q ↔ q (.agg l) := by
 obtain ⟨⟨j, h3, h4, h5, h6, h7⟩, h8⟩ := he
 subst h4
 show (∃ u, vload E h e (.ptr b o) = some u ∧ q u) ↔ _
 have : vload E h e (.ptr b o) = some (.agg l) := by
  simp only [vload, rdCells_of hg, Option.bind_some, partV, h3]
  split at h7 <;> first | (cases h7; done) | skip
  ·rename_i fs hk
   rw [hk]; simp only [hv, Option.bind_some]
  ·rename_i m e' hk
   rw [hk]; simp only [hv, Option.bind_some]
 rw [this, ex_some]
theorem pu_store {e sz : Nat} {z : List V} {ag : Bool} (he : El E e sz z ag) {h : Hp} {b o f : Nat} {vs : List V} (hg : h.t.get b = some (.cells vs f false)) {x : V} (hx : x.cells.length = sz) (hc : allCells x.cells = true) {r : List V} (hr : spl vs o x.cells = some r) (q : Hp → Prop) : (Pu E).store h e (.ptr b o) x q ↔ q (h.set b (.cells r f false)) := by
 obtain ⟨⟨j, h3, h4, h5, h6, h7⟩, h8⟩ := he
 subst h4
 show (∃ u, vstore E h e (.ptr b o) x = some u ∧ q u) ↔ _
 have : vstore E h e (.ptr b o) x = some (h.set b (.cells r f false)) := by
  have hb : Nat.beq x.cells.length j.size = true := by rw [hx]; exact Nat.beq_refl _
  simp only [vstore, h3, Option.bind_some, hb, cond_true, wrCells, hg, hc, hr]
 rw [this, ex_some]
theorem pu_nilc (b o : Nat) (q : V → Prop) : (Pu E).nilc (.ptr b o) q ↔ q (.ptr b o) := by
 show (∃ v, nilCheckV (.ptr b o) = some v ∧ q v) ↔ _
 simp only [nilCheckV, ex_some]
theorem pu_extr {i : Nat} {l : List V} {v : V} (h : l[i]? = some v) (q : V → Prop) : (Pu E).extr (.tup l) i q ↔ q v := by
 show (∃ u, extractV i (.tup l) = some u ∧ q u) ↔ _
 rw [extractV, h, ex_some]
theorem pu_extr0 (x : V) (l : List V) (q : V → Prop) : (Pu E).extr (.tup (x :: l)) 0 q ↔ q x := pu_extr rfl q
theorem pu_extr1 (x y : V) (l : List V) (q : V → Prop) : (Pu E).extr (.tup (x :: y :: l)) 1 q ↔ q y := pu_extr rfl q
theorem pu_gval_y (w : Bool) (f : (V → Prop) → Prop) (k : V → Prop) : (Pu E).gval (.bool w) w f k ↔ f k := by
 show (∃ c, wantV (.bool w) w = some c ∧ (c = true → f k) ∧ (c = false → k undefV)) ↔ _
 simp [wantV]
theorem pu_gval_n (w : Bool) (f : (V → Prop) → Prop) (k : V → Prop) : (Pu E).gval (.bool (!w)) w f k ↔ k undefV := by
 show (∃ c, wantV (.bool (!w)) w = some c ∧ (c = true → f k) ∧ (c = false → k undefV)) ↔ _
 cases w <;> simp [wantV]
theorem pu_gval_tf (f : (V → Prop) → Prop) (k : V → Prop) : (Pu E).gval (.bool true) false f k ↔ k undefV := pu_gval_n false f k
theorem pu_gval_ft (f : (V → Prop) → Prop) (k : V → Prop) : (Pu E).gval (.bool false) true f k ↔ k undefV := pu_gval_n true f k
theorem pu_geff_y (w : Bool) (f : (V → Hp → Prop) → Prop) (h : Hp) (k : V → Hp → Prop) : (Pu E).geff (.bool w) w f h k ↔ f k := by
 show (∃ c, wantV (.bool w) w = some c ∧ (c = true → f k) ∧ (c = false → k undefV h)) ↔ _
 simp [wantV]
theorem pu_geff_tf (f : (V → Hp → Prop) → Prop) (h : Hp) (k : V → Hp → Prop) : (Pu E).geff (.bool true) false f h k ↔ k undefV h := by
 show (∃ c, wantV (.bool true) false = some c ∧ (c = true → f k) ∧ (c = false → k undefV h)) ↔ _
 simp [wantV]
theorem pu_geff_ft (f : (V → Hp → Prop) → Prop) (h : Hp) (k : V → Hp → Prop) : (Pu E).geff (.bool false) true f h k ↔ k undefV h := by
 show (∃ c, wantV (.bool false) true = some c ∧ (c = true → f k) ∧ (c = false → k undefV h)) ↔ _
 simp [wantV]
theorem pu_pick_t (a : V) (b : Option V) (q : V → Prop) : (Pu E).pick (.bool true) (some a) b q ↔ q a := by
 show (∃ x, V.bool true = .bool x ∧ ∃ v, (bif x then some a else b) = some v ∧ q v) ↔ _
 exact ⟨fun ⟨x, h1, v, h2, h3⟩ => by cases h1; cases h2; exact h3, fun h => ⟨true, rfl, a, rfl, h⟩⟩
theorem pu_pick_f (a : Option V) (b : V) (q : V → Prop) : (Pu E).pick (.bool false) a (some b) q ↔ q b := by
 show (∃ x, V.bool false = .bool x ∧ ∃ v, (bif x then a else some b) = some v ∧ q v) ↔ _
 exact ⟨fun ⟨x, h1, v, h2, h3⟩ => by cases h1; cases h2; exact h3, fun h => ⟨false, rfl, b, rfl, h⟩⟩
structure New (h h1 : Hp) (b : Nat) (k : Blk) : Prop where
 at_ : h1.t.get b = some k
 n : h1.n = h.n + 1
 b : b = h.n
 old : ∀ c, c < h.n → h1.t.get c = h.t.get c
theorem New.mk' (h : Hp) (k : Blk) : New h (h.new k) h.n k := ⟨by rw [Hp.get_new, if_pos rfl], rfl, rfl, fun c hc => by rw [Hp.get_new, if_neg (by omega)]⟩
theorem New.ext {h h1 : Hp} {b : Nat} {k : Blk} (w : New h h1 b k) {N : Nat} (hN : N ≤ h.n) : Ext N h h1 := ⟨by rw [w.n]; omega, fun c hc => w.old c (by omega)⟩
theorem pu_allocX {e sz : Nat} {z : List V} {ag : Bool} (he : El E e sz z ag) {h : Hp} {q : V → Hp → Blk → Prop} (hq : ∀ h1 b, New h h1 b (.cells z e false) → q (.ptr b 0) h1 (.cells z e false)) : (Pu E).alloc h e q :=
 (pu_alloc he h q).2 (hq _ _ (New.mk' _ _))
theorem pu_boxX {e : Nat} {cs : List V} (hc : allCells cs = true) {h : Hp} {q : V → Hp → Blk → Prop} (hq : ∀ h1 b, New h h1 b (.cells cs e false) → q (.ptr b 0) h1 (.cells cs e false)) : (Pu E).box h e (.agg cs) q :=
 (pu_box (x := .agg cs) hc h q).2 (hq _ _ (New.mk' _ _))
structure Wr (h h1 : Hp) (b : Nat) (k : Blk) : Prop where
 at_ : h1.t.get b = some k
 n : h1.n = h.n
 other : ∀ c, c ≠ b → h1.t.get c = h.t.get c
theorem Wr.ext {h h1 : Hp} {b : Nat} {k : Blk} (w : Wr h h1 b k) {N : Nat} (hN : N ≤ b) : Ext N h h1 := ⟨by rw [w.n]; exact Nat.le_refl _, fun c hc => w.other c (by omega)⟩
theorem pu_storeX {e sz : Nat} {z : List V} {ag : Bool} (he : El E e sz z ag) {h : Hp} {b o f : Nat} {vs : List V} (hg : h.t.get b = some (.cells vs f false)) {x : V} (hx : x.cells.length = sz) (hc : allCells x.cells = true) {r : List V} (hr : spl vs o x.cells = some r) {q : Hp → Prop} (hq : ∀ h1, Wr h h1 b (.cells r f false) → q h1) : (Pu E).store h e (.ptr b o) x q :=
 (pu_store he hg hx hc hr q).2 (hq _ ⟨by rw [Hp.get_set, if_pos rfl], rfl, fun c hc => by rw [Hp.get_set, if_neg hc]⟩)
theorem pu_bslX {t e n : Nat} {z : V} (ht : IsSl E t e) (he : El E e 1 [z] false) (ps : List (Nat × V)) (hc : ∀ p ∈ ps, C1 p.2) (hp : placesOK (placesOf 1 0 n) (rep n [z]).length ps = true) (hn : n ≤ 65536) {h : Hp} {q : V → Hp → Blk → Prop}
  (hq : ∀ h1 b, New h h1 b (.cells (setAll (placesOf 1 0 n) (rep n [z]) ps) e false) → q (.sl b 0 n n) h1 (.cells (setAll (placesOf 1 0 n) (rep n [z]) ps) e false)) : (Pu E).bsl h t n ps q := by
 obtain ⟨ti, h1, h2⟩ := ht
 obtain ⟨⟨j, h5, h6, h7, h8, _⟩, h9⟩ := he
 have hcb : (Nat.ble (n * j.size) 16777216 && Nat.beq ((j.zero.getD []).length) j.size) = true := by
  rw [h6, h7]
  simp only [Option.getD_some, List.length_cons, List.length_nil, Nat.mul_one, Bool.and_eq_true]
  exact ⟨Nat.ble_eq_true_of_le (by omega), rfl⟩
 have : vbuildSlice E t n ps = some (.sl n n, .cells (setAll (placesOf 1 0 n) (rep n [z]) ps) e false) := by
  simp only [vbuildSlice, h1, Option.bind_some, h2, h5]
  rw [hcb, h7, h6]
  simp only [cond_true, Option.bind_some]
  rw [fill_cells _ ps _ hc hp]
  rfl
 exact ⟨_, this, hq _ _ (New.mk' _ _)⟩
end
end Go.Proofs.YtbchdlelmkmagaaGreatDoor.VM
