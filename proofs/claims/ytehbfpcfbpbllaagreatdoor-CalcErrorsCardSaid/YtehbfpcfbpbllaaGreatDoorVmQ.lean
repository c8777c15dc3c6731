/- The machine of plain data: likeness, parts, places, slices. No program in sight. -/
import Derived.Test.YtehbfpcfbpbllaaGreatDoorVmP
namespace Go.Proofs.YtehbfpcfbpbllaaGreatDoor.VM
open Go Go.RowKit
set_option linter.unusedSectionVars false
variable [Sy]
section
variable {P : Program} {E : Env} {σ : Mp} {w : World}
theorem veqP_sound (hE : EnvOK P E) {e a b x y : Nat} {c : Bool} {p q n m : Nat} (h : veqP E e a b x y = some c) (ha : σ a = some (p, n)) (hb : σ b = some (q, m)) (t : TypeId) (ht : P.underlying t = some (.pointer e)) (N : Nat) :
    (Op.equalIn (N + 1) t (.pointer (some ⟨p, x, none⟩)) (.pointer (some ⟨q, y, none⟩))).run P w = .ok c w := by
  simp only [veqP, Option.bind_eq_some_iff] at h
  obtain ⟨j, hj, h⟩ := h
  obtain ⟨d, inf, T⟩ := hE.is hj
  cases hs : Nat.beq j.size 0 with
  | true => rw [hs] at h; cases h
  | false =>
    rw [hs] at h
    simp only [cond_false] at h
    cases hab : Nat.beq a b with
    | false => rw [hab] at h; cases h
    | true =>
      rw [hab] at h
      simp only [cond_true, Option.some.injEq] at h
      obtain rfl := Nat.eq_of_beq_eq_true hab
      rw [ha] at hb
      cases hb
      subst h
      have hsz : ¬ inf.size = 0 := by rw [← T.size]; intro e; rw [e] at hs; cases hs
      have e2 : (({ block := p, off := x } : Addr) == { block := p, off := y }) = Nat.beq x y := by
        rw [beq_d, Bool.eq_iff_iff, beq_iff_eq, decide_eq_true_iff]
        simp
      simp [Op.equalIn, run_underlying ht, run_sizeOf T.info, hsz, sameAddr, e2]
theorem veqI_sound (hE : EnvOK P E) {t tx ty : TypeId} {ms : Array (String × TypeId)} (hu : P.underlying t = some (.interface ms)) {x y : V} {a b : Value} {c : Bool} (h : veqI E tx ty x y = some c) (hx : Rep σ x a) (hy : Rep σ y b) (N : Nat) :
    (Op.equalIn (N + 2) t (.iface tx a) (.iface ty b)).run P w = .ok c w := by
  unfold veqI at h
  unfold Op.equalIn
  rw [Sem.run_bind, run_underlying hu, Result.andThen_ok]
  cases hq : Nat.beq tx ty with
  | false =>
    rw [hq] at h
    simp only [cond_false, Option.some.injEq] at h
    subst h
    have : tx ≠ ty := fun e => by rw [e] at hq; simp at hq
    simp only [ne_eq, this, not_false_eq_true, if_true, Sem.run_pure]
  | true =>
    rw [hq] at h
    obtain rfl := Nat.eq_of_beq_eq_true hq
    simp only [cond_true, Option.bind_eq_some_iff] at h
    obtain ⟨j, hj, h⟩ := h
    obtain ⟨d, inf, T⟩ := hE.is hj
    have hc : j.cmp = inf.comparable := by
      have h2 := hE.ty tx j hj
      unfold tiOf at h2
      split at h2
      · rename_i inf' d' h3 h4
        rw [T.info] at h3
        cases h3
        cases h2
        rfl
      · cases h2
    cases hcm : j.cmp with
    | false => rw [hcm] at h; cases h
    | true =>
      rw [hcm] at h hc
      simp only [cond_true] at h
      simp only [ne_eq, not_true_eq_false, if_false, Sem.run_bind, run_typeInfo T.info, Result.andThen_ok, ← hc, Bool.not_true, Bool.false_eq_true]
      split at h
      · rename_i k hk
        rw [T.k] at hk
        obtain rfl := kOf_int hk.symm
        exact ceq_sound T.und rfl h hx hy
      · rename_i hk
        rw [T.k] at hk
        obtain rfl := kOf_str hk.symm
        exact ceq_sound T.und rfl h hx hy
      · cases h
set_option maxHeartbeats 2000000 in
theorem veqIn_sound (hE : EnvOK P E) {t : TypeId} {i : TI} {d : TypeDesc} {inf : TypeInfo} (T : TyIs P t i d inf) {x y : V} {a b : Value} {c : Bool} (h : veq E i x y = some c) (hx : Rep σ x a) (hy : Rep σ y b) (N : Nat) :
    (Op.equalIn (N + 2) t a b).run P w = .ok c w := by
  have hu : ∀ w, (underlying t).run P w = .ok d w := run_underlying T.und
  unfold veq at h
  split at h <;> first | (cases h; done) | skip
  all_goals rename_i hk
  all_goals rw [T.k] at hk
  case h_5 =>
    cases hx; cases hy
    obtain rfl := kOf_ptr hk.symm
    exact veqP_sound hE h ‹_› ‹_› t T.und _
  case h_19 =>
    cases hx; cases hy
    obtain rfl := kOf_iface hk.symm
    exact veqI_sound hE T.und h ‹_› ‹_› N
  case h_20 =>
    cases hx; cases hy
    exact (aeq_sound T h ‹_› ‹_› N).1
  all_goals
    cases hx; cases hy
    simp only [Option.some.injEq] at h
    subst h
    cases d <;> simp [kOf] at hk
    unfold Op.equalIn
    rw [Sem.run_bind, hu, Result.andThen_ok]
    rfl
theorem veq_agg {i : TI} {a b : List V} {c : Bool} (h : veq E i (.agg a) (.agg b) = some c) : aeq i a b = some c := by
  unfold veq at h
  cases hk : i.k <;> simp only [hk] at h <;> first | exact h | cases h
theorem veq_sound (hE : EnvOK P E) {t : TypeId} {i : TI} {d : TypeDesc} {inf : TypeInfo} (T : TyIs P t i d inf) {x y : V} {a b : Value} {c : Bool} (h : veq E i x y = some c) (hx : Rep σ x a) (hy : Rep σ y b) :
    (Op.equal t a b).run P w = .ok c w := veqIn_sound hE T h hx hy 9998
theorem isConst_match {ox oy : Operand} (h : (isConstO ox || isConstO oy) = true) (op : BinOp) (t : TypeId) : (eqGuard op t ox oy .nilIface .nilIface).run P w = .ok () w := by
  cases op <;> first | rfl | (cases ox <;> cases oy <;> first | rfl | cases h)
theorem nil_eq (hE : EnvOK P E) {t : TypeId} {r : Bool} (hr : ((E.ty.get t).bind fun i => match i.k with | .iface _ => some true | _ => none) = some r) : (Op.equal t .nilIface .nilIface).run P w = .ok r w := by
  simp only [Option.bind_eq_some_iff] at hr
  obtain ⟨i, hi, hr⟩ := hr
  obtain ⟨d, inf, T⟩ := hE.is hi
  split at hr
  · rename_i ms hk
    rw [T.k] at hk
    obtain rfl := kOf_iface hk.symm
    cases hr
    show (Op.equalIn (9999 + 1) t .nilIface .nilIface).run P w = _
    generalize 9999 = N
    simp [Op.equalIn, run_underlying T.und]
  · cases hr
theorem veq_any1 (i : TI) (y : V) : veq E i .any y = none := by
  unfold veq
  split <;> first | rfl | (rename_i h _ ; cases h; done) | simp_all
theorem veq_any2 (i : TI) (x : V) : veq E i x .any = none := by
  unfold veq
  split <;> first | rfl | (rename_i h; cases h; done) | simp_all
/-- what stands for something, reckoned with -/
theorem so_sound (hE : EnvOK P E) {op : BinOp} {x y : V} {a b : Value} {v : V} (h : E.so (.bin op) [x, y] = some v) (hx : Rep σ x a) (hy : Rep σ y b) :
    ∀ t ox oy, ∃ r, (do eqGuard op t ox oy a b; binOp op t a b : Sem Value).run P w = .ok r w ∧ Rep σ v r := by
  intro t ox oy
  have h1 := hE.so.bin _ _ _ _ h
  have hx := den_rep hx
  have hy := den_rep hy
  generalize den x = x1 at *
  generalize den y = y1 at *
  unfold vbin at h1
  split at h1
  · cases hx; cases hy
    rename_i k a j b
    obtain ⟨r, hr, rr⟩ := intOp_sound (σ := σ) (P := P) (w := w) (t := t) (op := op) (k := k) (j := j) (a := a) (b := b) (v := den v) (by unfold vbin; exact h1)
    refine ⟨r, ?_, rep_den rr⟩
    have hg : (eqGuard op t ox oy (.int k a) (.int j b)).run P w = .ok () w := by cases op <;> rfl
    rw [Sem.run_bind, hg, Result.andThen_ok, hr]
  · rename_i s1 s2
    cases hx with
    | str _ q1 => cases hy with
      | str _ q2 =>
        obtain ⟨r, hr, rr⟩ := stringOp_sound (σ := σ) (P := P) (w := w) q1 q2 (op := op) (v := den v) (by unfold vbin; exact h1)
        refine ⟨r, ?_, rep_den rr⟩
        have hg : (eqGuard op t ox oy (.string (bytesOf s1)) (.string (bytesOf s2))).run P w = .ok () w := by cases op <;> rfl
        rw [Sem.run_bind, hg, Result.andThen_ok, ← hr]
        cases op <;> first | rfl | (cases h1; done)
  · cases h1
set_option maxHeartbeats 2000000 in
theorem binO_sound (hE : EnvOK P E) {op : BinOp} {t : TypeId} {ox oy : Operand} {x y : V} {a b : Value} {v : V} (h : vbinO E op t ox oy x y = some v) (hx : Rep σ x a) (hy : Rep σ y b) :
    ∃ r, (do eqGuard op t ox oy a b; binOp op t a b : Sem Value).run P w = .ok r w ∧ Rep σ v r := by
  unfold vbinO at h
  split at h
  · cases hx; cases hy
    rename_i k a j b
    obtain ⟨r, hr, rr⟩ := intOp_sound (σ := σ) (P := P) (w := w) (t := t) h
    refine ⟨r, ?_, rr⟩
    have hg : (eqGuard op t ox oy (.int k a) (.int j b)).run P w = .ok () w := by cases op <;> rfl
    rw [Sem.run_bind, hg, Result.andThen_ok]
    exact hr
  · rename_i s1 s2
    cases hx with
    | str _ h1 => cases hy with
      | str _ h2 =>
        obtain ⟨r, hr, rr⟩ := stringOp_sound (σ := σ) (P := P) (w := w) h1 h2 h
        refine ⟨r, ?_, rr⟩
        have hg : (eqGuard op t ox oy (.string (bytesOf s1)) (.string (bytesOf s2))).run P w = .ok () w := by cases op <;> rfl
        rw [Sem.run_bind, hg, Result.andThen_ok, ← hr]
        cases op <;> first | rfl | (simp only [vbin] at h; cases h)
  · cases hx; cases hy
    cases hc : (isConstO ox || isConstO oy) with
    | false => rw [hc] at h; cases h
    | true =>
      rw [hc] at h
      simp only [cond_true] at h
      simp only [Sem.run_bind, isConst_match hc, Result.andThen_ok]
      cases op <;> simp only [eqOp] at h <;> (try (cases h; done)) <;> (rw [Option.bind_eq_some_iff] at h; obtain ⟨r, hr, h2⟩ := h; cases h2)
      · exact ⟨_, by simp only [binOp, Sem.run_bind, nil_eq hE hr, Result.andThen_ok, Sem.run_pure], .bool _⟩
      · exact ⟨_, by simp only [binOp, Sem.run_bind, nil_eq hE hr, Result.andThen_ok, Sem.run_pure], .bool _⟩
  iterate 4
    · exact so_sound (w := w) hE h hx hy t ox oy
  · rename_i hn4 hn5 hn6 hn7 hn1 hn2 hn3
    have key : ∀ r, ((E.ty.get t).bind fun i => veq E i x y) = some r → (Op.equal t a b).run P w = .ok r w ∧ (eqGuard op t ox oy a b).run P w = .ok () w := fun r hr => by
      simp only [Option.bind_eq_some_iff] at hr
      obtain ⟨i, hi, hr⟩ := hr
      obtain ⟨d, inf, T⟩ := hE.is hi
      refine ⟨veq_sound hE T hr hx hy, ?_⟩
      cases hx <;> cases hy <;> first
        | (cases op <;> rfl)
        | exact (hn3 rfl rfl).elim
        | exact (hn4 _ _ rfl).elim
        | exact (hn5 _ rfl).elim
        | exact (hn6 _ _ rfl).elim
        | exact (hn7 _ rfl).elim
        | (rw [veq_any1] at hr; cases hr; done)
        | (rw [veq_any2] at hr; cases hr; done)
        | exact run_eqGuard_agg w op t ox oy _ _ (aeq_sound (w := w) T (veq_agg hr) ‹_› ‹_› 9998).2
    cases op <;> simp only [eqOp] at h <;> (try (cases h; done)) <;> (rw [Option.bind_eq_some_iff] at h; obtain ⟨r, hr, h2⟩ := h; cases h2)
    · obtain ⟨h1, h2⟩ := key r hr
      refine ⟨.bool r, ?_, .bool _⟩
      simp only [Sem.run_bind, h2, Result.andThen_ok]
      cases hx <;> cases hy <;> first
        | (simp only [binOp, Sem.run_bind, h1, Result.andThen_ok, Sem.run_pure]; done)
        | exact (hn1 _ _ _ _ rfl rfl).elim
        | exact (hn2 _ _ rfl rfl).elim
        | exact (hn4 _ _ rfl).elim
        | exact (hn5 _ rfl).elim
        | exact (hn6 _ _ rfl).elim
        | exact (hn7 _ rfl).elim
        | (rw [Option.bind_eq_some_iff] at hr; obtain ⟨_, _, hr⟩ := hr; first | (rw [veq_any1] at hr; cases hr; done) | (rw [veq_any2] at hr; cases hr; done))
    · obtain ⟨h1, h2⟩ := key r hr
      refine ⟨.bool (!r), ?_, .bool _⟩
      simp only [Sem.run_bind, h2, Result.andThen_ok]
      cases hx <;> cases hy <;> first
        | (simp only [binOp, Sem.run_bind, h1, Result.andThen_ok, Sem.run_pure]; done)
        | exact (hn1 _ _ _ _ rfl rfl).elim
        | exact (hn2 _ _ rfl rfl).elim
        | exact (hn4 _ _ rfl).elim
        | exact (hn5 _ rfl).elim
        | exact (hn6 _ _ rfl).elim
        | exact (hn7 _ rfl).elim
        | (rw [Option.bind_eq_some_iff] at hr; obtain ⟨_, _, hr⟩ := hr; first | (rw [veq_any1] at hr; cases hr; done) | (rw [veq_any2] at hr; cases hr; done))
end
end Go.Proofs.YtehbfpcfbpbllaaGreatDoor.VM
