/- The machine of plain data: a run from nothing, made once, stands wherever the call stands: its blocks are numbered anew. No program in sight. -/
import Derived.Test.YtehbfpcfbpbllaaGreatDoorVmI
namespace Go.Proofs.YtehbfpcfbpbllaaGreatDoor.VM
open Go Go.RowKit
set_option linter.unusedSectionVars false
variable [Sy]
noncomputable section
mutual
def V.ren (r : Nat → Nat) : V → V
  | .bool b => .bool b
  | .int k n => .int k n
  | .str s => .str s
  | .nilp => .nilp
  | .ptr b o => .ptr (r b) o
  | .nils => .nils
  | .sl b o l c => .sl (r b) o l c
  | .slo b o l lo sz => .slo (r b) o l lo sz
  | .emp => .emp
  | .nilm => .nilm
  | .mp b => .mp (r b)
  | .fn f a c => .fn f (V.renL r a) (V.renL r c)
  | .nilf => .nilf
  | .iface t v => .iface t (V.ren r v)
  | .nili => .nili
  | .agg l => .agg (V.renL r l)
  | .tup l => .tup (V.renL r l)
  | .any => .any
  | .symI k j => .symI k j
  | .symS j => .symS j
  | .gptr g o => .gptr g o
def V.renL (r : Nat → Nat) : List V → List V
  | [] => []
  | v :: l => V.ren r v :: V.renL r l
end
mutual
theorem Rep.ren {σ τ : Mp} {r q : Nat → Nat} (h : ∀ i, τ (q i) = σ (r i)) : ∀ (v : V) {x : Value}, Rep σ (v.ren r) x → Rep τ (v.ren q) x
  | .bool b, _, k => by rw [V.ren] at k ⊢; cases k; exact .bool b
  | .int a b, _, k => by rw [V.ren] at k ⊢; cases k; exact .int a b
  | .str s, _, k => by rw [V.ren] at k ⊢; cases k with | str _ hs => exact .str _ hs
  | .nilp, _, k => by rw [V.ren] at k ⊢; cases k; exact .nilp
  | .ptr b o, _, k => by rw [V.ren] at k ⊢; cases k with | ptr _ _ _ _ e => exact .ptr _ _ _ _ (by rw [h]; exact e)
  | .nils, _, k => by rw [V.ren] at k ⊢; cases k; exact .nils
  | .sl b o l c, _, k => by rw [V.ren] at k ⊢; cases k with | sl _ _ _ _ _ _ e => exact .sl _ _ _ _ _ _ (by rw [h]; exact e)
  | .slo b o l lo sz, _, k => by rw [V.ren] at k ⊢; cases k with | slo _ _ _ _ _ _ _ _ e h1 h2 h3 => exact .slo _ _ _ _ _ _ _ _ (by rw [h]; exact e) h1 h2 h3
  | .emp, _, k => by rw [V.ren] at k ⊢; cases k; exact .emp _ _
  | .nilm, _, k => by rw [V.ren] at k ⊢; cases k; exact .nilm
  | .mp b, _, k => by rw [V.ren] at k ⊢; cases k with | mp _ _ _ e => exact .mp _ _ _ (by rw [h]; exact e)
  | .fn f a c, _, k => by rw [V.ren] at k ⊢; cases k with | fn _ _ _ _ _ k1 k2 => exact .fn _ _ _ _ _ (RepL.ren h a k1) (RepL.ren h c k2)
  | .nilf, _, k => by rw [V.ren] at k ⊢; cases k; exact .nilf
  | .iface t v, _, k => by rw [V.ren] at k ⊢; cases k with | iface _ _ _ k1 => exact .iface _ _ _ (Rep.ren h v k1)
  | .nili, _, k => by rw [V.ren] at k ⊢; cases k; exact .nili
  | .agg l, _, k => by rw [V.ren] at k ⊢; cases k with | agg _ _ k1 => exact .agg _ _ (RepL.ren h l k1)
  | .tup l, _, k => by rw [V.ren] at k ⊢; cases k with | tup _ _ k1 => exact .tup _ _ (RepL.ren h l k1)
  | .any, _, k => by rw [V.ren] at k ⊢; cases k; exact .any _ ‹_›
  | .symI k j, _, h => by rw [V.ren] at h ⊢; cases h; exact .symI k j
  | .symS j, _, h => by rw [V.ren] at h ⊢; cases h with | symS _ hs => exact .symS j hs
  | .gptr g o, _, h => by rw [V.ren] at h ⊢; cases h; exact .gptr g o
theorem RepL.ren {σ τ : Mp} {r q : Nat → Nat} (h : ∀ i, τ (q i) = σ (r i)) : ∀ (l : List V) {y : List Value}, RepL σ (V.renL r l) y → RepL τ (V.renL q l) y
  | [], _, k => by rw [V.renL] at k ⊢; cases k; exact .nil
  | v :: l, _, k => by rw [V.renL] at k ⊢; cases k with | cons _ _ _ _ k1 k2 => exact .cons _ _ _ _ (Rep.ren h v k1) (RepL.ren h l k2)
end
def renE (r : Nat → Nat) : List (V × V × Nat) → List (V × V × Nat)
  | [] => []
  | (k, v, n) :: l => (k.ren r, v.ren r, n) :: renE r l
theorem RepE.ren {σ τ : Mp} {r q : Nat → Nat} (h : ∀ i, τ (q i) = σ (r i)) : ∀ (l : List (V × V × Nat)) {y : List MapEntry}, RepE σ (renE r l) y → RepE τ (renE q l) y
  | [], _, k => by cases k; exact .nil
  | (a, v, n) :: l, _, k => by cases k with | cons _ _ _ _ _ _ _ k1 k2 k3 => exact .cons _ _ _ _ _ _ _ (Rep.ren h a k1) (Rep.ren h v k2) (RepE.ren h l k3)
def Blk.ren (r : Nat → Nat) : Blk → Blk
  | .cells vs e ro => .cells (V.renL r vs) e ro
  | .map es c => .map (renE r es) c
  | .siter s p => .siter s p
  | .dead => .dead
theorem RepB.ren {σ τ : Mp} {r q : Nat → Nat} (h : ∀ i, τ (q i) = σ (r i)) {n : Nat} {b : Blk} {o : Obj} (k : RepB σ n (b.ren r) o) : RepB τ n (b.ren q) o := by
  cases b with
  | cells vs e ro => obtain ⟨xs, ys, fz, h1, h2, h3⟩ := CellsAre.out k; exact ⟨xs, ys, fz, h1, RepL.ren h vs h2, h3⟩
  | map es c => obtain ⟨ms, h1, h2⟩ := k; exact ⟨ms, h1, RepE.ren h es h2⟩
  | siter s p => exact k
  | dead => trivial
def Blk.noRo : Blk → Bool
  | .cells _ _ ro => !ro
  | _ => true
def Hp.app (h : Hp) (l : List Blk) : Hp := ⟨T.ofL (l.map some) h.n h.t, h.n + l.length⟩
theorem Hp.get_app_old (h : Hp) (l : List Blk) {j : Nat} (hj : j < h.n) : (h.app l).t.get j = h.t.get j := by
  unfold Hp.app
  rw [T.get_ofL, if_neg (by omega)]
theorem Hp.get_app_new (h : Hp) (l : List Blk) (i : Nat) {b : Blk} (hi : l[i]? = some b) : (h.app l).t.get (h.n + i) = some b := by
  unfold Hp.app
  have hl := (List.getElem?_eq_some_iff.1 hi).1
  rw [T.get_ofL, if_pos (by simp; omega), Nat.add_sub_cancel_left, List.getElem?_map, hi]
  rfl
def rn (ρ : List Nat) (K i : Nat) : Nat := ρ.getD i K
/-- what came of a call from nothing, beside what stood -/
theorem relocate {N : Nat} {h h' : Hp} {σ σ' : Mp} {w w' : World} {x : Value} {v0 : V} {bs : List Blk} {ρ : List Nat} {K : Nat}
    (R : Rel N σ h w) (R' : Rel w.heap.size σ' h' w') (hb : Below w.heap.size w w') (hK : h'.n ≤ K) (hr : Rep σ' (v0.ren (rn ρ K)) x)
    (hg : ∀ (i B : Nat), ρ[i]? = some B → ∃ b : Blk, bs[i]? = some b ∧ h'.t.get B = some (b.ren (rn ρ K)))
    (hro : ∀ b ∈ bs, b.noRo = true) (hnd : ρ.Nodup) :
    Does N σ h w (v0.ren fun i => h.n + i) (h.app (bs.map (Blk.ren fun i => h.n + i))) x w' := by
  have Rw := R.world hb
  obtain ⟨τ, hτ⟩ : ∃ τ : Mp, τ = fun B => if B < h.n then σ B else σ' (rn ρ K (B - h.n)) := ⟨_, rfl⟩
  have told : ∀ B, B < h.n → τ B = σ B := fun B hB => by rw [hτ]; exact if_pos hB
  have tnew : ∀ i, τ (h.n + i) = σ' (rn ρ K i) := fun i => by rw [hτ]; show (if h.n + i < h.n then _ else _) = _; rw [if_neg (by omega), Nat.add_sub_cancel_left]
  have hle : Mp.le σ τ := fun B p e => by rw [told B (R.has B p.1 p.2 e).1]; exact e
  have hnew : ∀ (i b n : Nat), τ (h.n + i) = some (b, n) → ∃ (C : Nat) (b0 : Blk), ρ[i]? = some C ∧ σ' C = some (b, n) ∧ bs[i]? = some b0 ∧ h'.t.get C = some (b0.ren (rn ρ K)) ∧ (h.app (bs.map (Blk.ren fun i => h.n + i))).t.get (h.n + i) = some (b0.ren fun i => h.n + i) := by
    intro i b n e
    rw [tnew] at e
    cases hc : ρ[i]? with
    | none =>
      have e2 : rn ρ K i = K := by unfold rn; rw [List.getD_eq_getElem?_getD, hc]; rfl
      rw [e2] at e
      have := (R'.has _ _ _ e).1
      omega
    | some C =>
      have e2 : rn ρ K i = C := by unfold rn; rw [List.getD_eq_getElem?_getD, hc]; rfl
      rw [e2] at e
      obtain ⟨b0, h1, h2⟩ := hg i C hc
      exact ⟨C, b0, rfl, e, h1, h2, Hp.get_app_new _ _ _ (by rw [List.getElem?_map, h1]; rfl)⟩
  have hdead : ∀ i b n, τ (h.n + i) = some (b, n) → b < w.heap.size → (h.app (bs.map (Blk.ren fun i => h.n + i))).t.get (h.n + i) = some .dead := by
    intro i b n e hlt
    obtain ⟨C, b0, h1, h2, h3, h4, h5⟩ := hnew i b n e
    have hn := hro b0 (List.mem_of_getElem? h3)
    rcases R'.old C b n h2 hlt with ⟨vs, el, h6⟩ | h6
    · rw [h4] at h6
      cases b0 with
      | cells us e2 ro =>
        simp only [Blk.ren, Option.some.injEq, Blk.cells.injEq] at h6
        rw [h6.2.2] at hn
        cases hn
      | map _ _ => cases h6
      | siter _ _ => cases h6
      | dead => cases h6
    · rw [h4] at h6
      rw [h5]
      cases b0 with
      | dead => rfl
      | cells _ _ _ => cases h6
      | map _ _ => cases h6
      | siter _ _ => cases h6
  have hsplit : ∀ B, B < h.n ∨ ∃ i, B = h.n + i := fun B => by
    by_cases hB : B < h.n
    · exact .inl hB
    · exact .inr ⟨B - h.n, by omega⟩
  refine ⟨τ, ⟨hle, fun B hB => told B hB⟩, Nat.le_add_right _ _, Rep.ren tnew v0 hr, ⟨?_, ?_, ?_, Nat.le_trans R.base hb.size, Rw.tab⟩, hb.mono R.base⟩
  · intro B b n e
    rcases hsplit B with hB | ⟨i, rfl⟩
    · rw [told B hB] at e
      obtain ⟨h1, h2, k, h3, h4⟩ := Rw.has B b n e
      exact ⟨Nat.lt_of_lt_of_le hB (Nat.le_add_right _ _), h2, k, by rw [Hp.get_app_old _ _ hB]; exact h3, fun o ho => (h4 o ho).mono hle⟩
    · obtain ⟨C, b0, h1, h2, h3, h4, h5⟩ := hnew i b n e
      obtain ⟨k1, k2, k, k3, k4⟩ := R'.has C b n h2
      rw [h4] at k3
      cases k3
      refine ⟨?_, k2, _, h5, fun o ho => RepB.ren tnew (k4 o ho)⟩
      have := (List.getElem?_eq_some_iff.1 h3).1
      show h.n + i < h.n + (bs.map _).length
      rw [List.length_map]; omega
  · intro B C b n m eB eC
    rcases hsplit B with hB | ⟨i, rfl⟩
    · rcases hsplit C with hC | ⟨j, rfl⟩
      · rw [told B hB] at eB
        rw [told C hC] at eC
        rw [Hp.get_app_old _ _ hB, Hp.get_app_old _ _ hC]
        exact R.inj B C b n m eB eC
      · rw [told B hB] at eB
        exact .inr (.inr (hdead j b m eC (R.has B b n eB).2.1))
    · rcases hsplit C with hC | ⟨j, rfl⟩
      · rw [told C hC] at eC
        exact .inr (.inl (hdead i b n eB (R.has C b m eC).2.1))
      · obtain ⟨B', b0, g1, g2, g3, g4, g5⟩ := hnew i b n eB
        obtain ⟨C', c0, k1, k2, k3, k4, k5⟩ := hnew j b m eC
        have dd : ∀ {z : Blk}, z.ren (rn ρ K) = .dead → z.ren (fun i => h.n + i) = .dead := fun {z} hz => by cases z <;> first | rfl | cases hz
        rcases R'.inj B' C' b n m g2 k2 with e | e | e
        · subst e
          left
          rw [(List.getElem?_inj (List.getElem?_eq_some_iff.1 g1).1 hnd).1 (g1.trans k1.symm)]
        · rw [g4] at e
          exact .inr (.inl (by rw [g5, dd (Option.some.inj e)]))
        · rw [k4] at e
          exact .inr (.inr (by rw [k5, dd (Option.some.inj e)]))
  · intro B b n e hlt
    rcases hsplit B with hB | ⟨i, rfl⟩
    · rw [told B hB] at e
      rw [Hp.get_app_old _ _ hB]
      exact R.old B b n e hlt
    · exact .inr (hdead i b n e (Nat.lt_of_lt_of_le hlt R.base))
def allStr : List V → Bool
  | [] => true
  | .str _ :: l => allStr l
  | .symS _ :: l => allStr l
  | .symI _ _ :: l => allStr l
  | _ => false
theorem RepL.closed {σ τ : Mp} : ∀ {l : List V} {y : List Value}, allStr l = true → RepL σ l y → RepL τ l y
  | [], _, _, .nil => .nil
  | .str s :: l, _, h, .cons _ _ _ _ (.str _ hs) k => .cons _ _ _ _ (.str _ hs) (RepL.closed (l := l) h k)
  | .symS s :: l, _, h, .cons _ _ _ _ (.symS _ hs) k => .cons _ _ _ _ (.symS _ hs) (RepL.closed (l := l) h k)
  | .symI _ _ :: l, _, h, .cons _ _ _ _ (.symI _ _) k => .cons _ _ _ _ (.symI _ _) (RepL.closed (l := l) h k)
/-- a run from nothing: its value, and the blocks that it needs -/
def look (ρ : List Nat) (K : Nat) : Option (V × Hp) → Option (V × List Blk)
  | some (v, h) => bif Nat.ble h.n K then (ρ.mapM fun B => h.t.get B).bind fun l => some (v, l) else none
  | none => none
theorem mapM_at {α β : Type} {f : α → Option β} : ∀ {l : List α} {m : List β}, l.mapM f = some m → l.length = m.length ∧ ∀ (i : Nat) (a : α), l[i]? = some a → ∃ b : β, m[i]? = some b ∧ f a = some b
  | [], m, h => by simp at h; subst h; exact ⟨rfl, fun i a ha => by simp at ha⟩
  | a :: l, m, h => by
    simp only [List.mapM_cons, Option.bind_eq_bind, Option.bind_eq_some_iff, Option.pure_def, Option.some.injEq] at h
    obtain ⟨b, hb, m', hm, rfl⟩ := h
    obtain ⟨h1, h2⟩ := mapM_at hm
    refine ⟨by simp [h1], fun i c hc => ?_⟩
    cases i with
    | zero => simp at hc; subst hc; exact ⟨b, by simp, hb⟩
    | succ i => simp at hc; obtain ⟨d, h3, h4⟩ := h2 i c hc; exact ⟨d, by simpa using h3, h4⟩
/-- a call whose run from nothing is known -/
theorem memo_ok {P : Program} {E : Env} (hE : EnvOK P E) (hI : IdleOK P E) (hH : HooksOK P E) (hname : NameOK P) {f n K : Nat} {ρ : List Nat} {al : List V} {v0 : V} {bs : List Blk}
    (hrun : look ρ K (callOf E (exec E n) f al ⟨.leaf, 0⟩) = some (v0.ren (rn ρ K), bs.map (Blk.ren (rn ρ K)))) (hal : allStr al = true) (hro : bs.all Blk.noRo = true) (hnd : ρ.Nodup)
    {N : Nat} {σ : Mp} {h : Hp} {w : World} {xs : List Value} (R : Rel N σ h w) (hr : RepL σ al xs) :
    match (callFunc f xs.toArray).run P w with
    | .ok (.value x) w' => Does N σ h w (v0.ren fun i => h.n + i) (h.app (bs.map (Blk.ren fun i => h.n + i))) x w'
    | .ok (.enter g ys) w' => Calls P g ys w' fun e w'' => ∃ x, e = .returned x ∧ Does N σ h w (v0.ren fun i => h.n + i) (h.app (bs.map (Blk.ren fun i => h.n + i))) x w''
    | _ => False := by
  unfold look at hrun
  split at hrun
  · rename_i v h' hc
    cases hk : Nat.ble h'.n K with
    | false => rw [hk] at hrun; cases hrun
    | true =>
      rw [hk] at hrun
      simp only [cond_true, Option.bind_eq_some_iff, Option.some.injEq, Prod.mk.injEq] at hrun
      obtain ⟨l, hm, e1, e2⟩ := hrun
      have m2 := (mapM_at hm).2
      have key : ∀ x w', Does w.heap.size (fun _ => none) ⟨.leaf, 0⟩ w v h' x w' → Does N σ h w (v0.ren fun i => h.n + i) (h.app (bs.map (Blk.ren fun i => h.n + i))) x w' := by
        rintro x w' ⟨σ', _, _, g1, g2, g3⟩
        subst e1
        refine relocate R g2 g3 (Nat.le_of_ble_eq_true hk) g1 (fun i B hi => ?_) (List.all_eq_true.1 hro) hnd
        obtain ⟨b, h3, h4⟩ := m2 i B hi
        rw [e2, List.getElem?_map, Option.map_eq_some_iff] at h3
        obtain ⟨b0, h5, rfl⟩ := h3
        exact ⟨b0, h5, h4⟩
      have h1 := run_ok hE hI hH hname n w.heap.size f al _ _ _ hc (fun _ => none) w xs (Rel.none w fun p hp => ⟨Nat.lt_of_lt_of_le (R.tab p hp).1 R.base, (R.tab p hp).2⟩) (RepL.closed hal hr)
      generalize (callFunc f xs.toArray).run P w = r at h1 ⊢
      match r, h1 with
      | .ok (.value x) w', h1 => exact key x w' h1
      | .ok (.enter g ys) w', h1 => exact Calls.mono h1 fun e w'' ⟨x, hx, hd⟩ => ⟨x, hx, key x w'' hd⟩
  · cases hrun
end
end Go.Proofs.YtehbfpcfbpbllaaGreatDoor.VM
