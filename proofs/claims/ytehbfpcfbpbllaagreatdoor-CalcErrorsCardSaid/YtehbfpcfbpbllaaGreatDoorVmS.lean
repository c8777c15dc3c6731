/- The machine of plain data: slices, places, parts of literals. No program in sight. -/
import Derived.Test.YtehbfpcfbpbllaaGreatDoorVmQ
namespace Go.Proofs.YtehbfpcfbpbllaaGreatDoor.VM
open Go Go.RowKit
set_option linter.unusedSectionVars false
variable [Sy]
/-- an operand that may lack -/
inductive RepO (σ : Mp) : Option V → Option Value → Prop
  | none : RepO σ none none
  | some (v : V) (x : Value) : Rep σ v x → RepO σ (some v) (some x)
section
variable {P : Program} {E : Env} {σ : Mp} {w : World}
theorem bound_sound {o : Option V} {x : Option Value} {most dflt n : Nat} (h : bound o most dflt = some n) (r : RepO σ o x) :
    (x = none ∧ n = dflt) ∨ ∃ y, x = some y ∧ n ≤ most ∧ ∀ (mo : Nat) (c : BoundsCode), n ≤ mo → (Instr.sliceBound y mo c).run P w = .ok n w := by
  cases r with
  | none => simp only [bound, Option.some.injEq] at h; exact .inl ⟨rfl, h.symm⟩
  | some v x r =>
    cases r <;> simp only [bound] at h <;> (try (cases h; done))
    rename_i k i
    rw [Option.bind_eq_some_iff] at h
    obtain ⟨m, hm, h⟩ := h
    obtain rfl := natOf_some hm
    cases hb : Nat.ble m most with
    | false => rw [hb] at h; cases h
    | true =>
      rw [hb] at h
      simp only [cond_true, Option.some.injEq] at h
      subst h
      refine .inr ⟨_, rfl, Nat.le_of_ble_eq_true hb, fun mo c hle => ?_⟩
      have h2 : (0 : Int) ≤ (m : Int) ∧ (m : Int) ≤ (mo : Int) := by omega
      simp [Instr.sliceBound, asIntOf, h2]
theorem sb_run {isS : Bool} {len c l h m : Nat} {xl xh xm : Option Value}
    (em : (xm = none ∧ m = c) ∨ ∃ y, xm = some y ∧ ∀ code, (Instr.sliceBound y c code).run P w = .ok m w)
    (eh : (xh = none ∧ xm = none ∧ h = len) ∨ ∃ y, xh = some y ∧ ∀ code, (Instr.sliceBound y m code).run P w = .ok h w)
    (el : (xl = none ∧ l = 0) ∨ ∃ y, xl = some y ∧ ∀ code, (Instr.sliceBound y h code).run P w = .ok l w) :
    (Instr.sliceBounds isS len c xl xh xm).run P w = .ok (l, h, m) w := by
  rcases em with ⟨rfl, rfl⟩ | ⟨y, rfl, e1⟩ <;> rcases eh with ⟨rfl, h2, rfl⟩ | ⟨z, rfl, e2⟩ <;> rcases el with ⟨rfl, rfl⟩ | ⟨u, rfl, e3⟩ <;> first
    | (cases h2; done)
    | (simp only [Instr.sliceBounds, Sem.run_bind, Sem.run_pure, Result.andThen_ok, *]; done)
theorem bounds_sound {lo hi mx : Option V} {xl xh xm : Option Value} {len cap : Nat} {l h m : Nat} (hb : bounds lo hi mx len cap = some (l, h, m)) (rl : RepO σ lo xl) (rh : RepO σ hi xh) (rm : RepO σ mx xm) :
    (∀ isS, (Instr.sliceBounds isS len cap xl xh xm).run P w = .ok (l, h, m) w) ∧ (mx = none → m = cap ∧ ∀ isS c, cap ≤ c → len ≤ cap → (Instr.sliceBounds isS len c xl xh xm).run P w = .ok (l, h, c) w ∧ l ≤ h ∧ h ≤ cap) ∧
      (mx ≠ none → ∀ isS c, cap ≤ c → (Instr.sliceBounds isS len c xl xh xm).run P w = .ok (l, h, m) w) := by
  unfold bounds at hb
  split at hb
  · cases hb
  · rename_i hnot
    simp only [Option.bind_eq_some_iff, Option.some.injEq, Prod.mk.injEq] at hb
    obtain ⟨m', hm, h', hh, l', hl, rfl, rfl, rfl⟩ := hb
    have bm := bound_sound (P := P) (w := w) hm rm
    have bh := bound_sound (P := P) (w := w) hh rh
    have bl := bound_sound (P := P) (w := w) hl rl
    have el : (xl = none ∧ l' = 0) ∨ ∃ y, xl = some y ∧ ∀ code, (Instr.sliceBound y h' code).run P w = .ok l' w :=
      bl.imp id fun ⟨y, e, hle, hy⟩ => ⟨y, e, fun code => hy _ code hle⟩
    have hx : xh = none → xm = none := fun e => by
      subst e
      cases rh
      cases rm with
      | none => rfl
      | some v x r => exact (hnot _ rfl rfl).elim
    have eh : ∀ mo, m' ≤ mo → (xh = none ∧ xm = none ∧ h' = len) ∨ ∃ y, xh = some y ∧ ∀ code, (Instr.sliceBound y mo code).run P w = .ok h' w := fun mo hmo =>
      bh.imp (fun ⟨e, hd⟩ => ⟨e, hx e, hd⟩) fun ⟨y, e, hle, hy⟩ => ⟨y, e, fun code => hy _ code (Nat.le_trans hle hmo)⟩
    refine ⟨fun isS => sb_run (bm.imp id fun ⟨y, e, hle, hy⟩ => ⟨y, e, fun code => hy _ code hle⟩) (eh _ (Nat.le_refl _)) el, fun e => ?_, fun e isS c hc => ?_⟩
    · subst e
      cases rm
      rcases bm with ⟨_, rfl⟩ | ⟨y, e, _⟩
      · refine ⟨rfl, fun isS c hc hlen => ⟨sb_run (.inl ⟨rfl, rfl⟩) (eh _ hc) el, ?_, ?_⟩⟩
        · rcases bl with ⟨_, rfl⟩ | ⟨_, _, hle, _⟩
          · omega
          · exact hle
        · rcases bh with ⟨_, rfl⟩ | ⟨_, _, hle, _⟩
          · exact hlen
          · exact hle
      · cases e
    · refine sb_run (.inr ?_) (eh _ (Nat.le_refl _)) el
      rcases bm with ⟨e2, _⟩ | ⟨y, e2, hle, hy⟩
      · subst e2
        cases rm
        exact absurd rfl e
      · exact ⟨y, e2, fun code => hy _ code (Nat.le_trans hle hc)⟩
theorem slOf_rep {B off sz b n l h m : Nat} (hσ : σ B = some (b, n)) :
    Rep σ (slOf B off sz (l, h, m)) (.slice (some (if m = l then ⟨b, off, none⟩ else (⟨b, off, none⟩ : Addr).add (l * sz))) (h - l) (m - l)) := by
  show Rep σ (.sl B (bif Nat.beq m l then off else off + l * sz) (h - l) (m - l)) _
  rw [beq_d]
  by_cases e : m = l
  · simp only [e, decide_true, cond_true, if_true]
    exact .sl _ _ _ _ _ _ hσ
  · simp only [e, decide_false, cond_false, if_false, addr_add]
    exact .sl _ _ _ _ _ _ hσ
theorem slice_sound (hE : EnvOK P E) {t : TypeId} {x : V} {a : Value} {lo hi mx : Option V} {xl xh xm : Option Value} {v : V} (h : vslice E t x lo hi mx = some v) (hx : Rep σ x a) (rl : RepO σ lo xl) (rh : RepO σ hi xh) (rm : RepO σ mx xm) :
    ∃ r, (Instr.sliceAt t a xl xh xm).run P w = .ok r w ∧ Rep σ v r := by
  simp only [vslice, Option.bind_eq_some_iff] at h
  obtain ⟨i, hi', h⟩ := h
  obtain ⟨d, inf, T⟩ := hE.is hi'
  unfold Instr.sliceAt
  rw [Sem.run_bind, run_underlying T.und, Result.andThen_ok]
  split at h
  · rename_i s hk
    rw [T.k] at hk
    obtain rfl := kOf_str hk.symm
    cases hx with
    | str _ hs =>
      split at h
      · rw [Option.bind_eq_some_iff] at h
        obtain ⟨⟨l, h', m⟩, hb, h2⟩ := h
        cases h2
        cases rm
        obtain ⟨h1, _⟩ := bounds_sound (P := P) (w := w) hb rl rh .none
        refine ⟨.string ((bytesOf s).extract l h'), ?_, ?_⟩
        · show (Instr.slice t _ _ _ _).run P w = _
          unfold Instr.slice
          rw [Sem.run_bind, run_underlying T.und, Result.andThen_ok]
          simp only [Option.isSome_none, Bool.false_eq_true, if_false, bytesOf_size, Sem.run_bind, h1 false, Result.andThen_ok, Sem.run_pure]
        · have : (bytesOf s).extract l h' = bytesOf ((s.take h').drop l) := by
            simp only [bytesOf, ByteArray.ext_iff, ByteArray.data_extract]
            simp [List.extract_toArray, List.extract, List.map_drop, List.map_take, List.drop_take]
          rw [this]
          exact .str _ (fun z hz => hs z (List.mem_of_mem_take (List.mem_of_mem_drop hz)))
      · cases h
  · rename_i q hk
    rw [T.k] at hk
    obtain rfl := kOf_str hk.symm
    cases hx with
    | symS _ hs =>
      split at h
      · simp only [Option.bind_eq_some_iff] at h
        obtain ⟨n, hn, n', hn', ⟨l, h', m⟩, hb, h2⟩ := h
        obtain ⟨s, e1, rfl⟩ := hE.so.len _ _ hn
        cases hn'
        cases e1
        obtain ⟨s2, e2, e3⟩ := hE.so.cut _ _ _ _ h2
        cases e2
        cases rm
        obtain ⟨h1, _⟩ := bounds_sound (P := P) (w := w) hb rl rh .none
        refine ⟨.string ((bytesOf (Sy.s q)).extract l h'), ?_, ?_⟩
        · show (Instr.slice t _ _ _ _).run P w = _
          unfold Instr.slice
          rw [Sem.run_bind, run_underlying T.und, Result.andThen_ok]
          simp only [Option.isSome_none, Bool.false_eq_true, if_false, bytesOf_size, Sem.run_bind, h1 false, Result.andThen_ok, Sem.run_pure]
        · have : (bytesOf (Sy.s q)).extract l h' = bytesOf (((Sy.s q).take h').drop l) := by
            simp only [bytesOf, ByteArray.ext_iff, ByteArray.data_extract]
            simp [List.extract_toArray, List.extract, List.map_drop, List.map_take, List.drop_take]
          rw [this]
          exact rep_den (by rw [e3]; exact .str _ (fun z hz => hs z (List.mem_of_mem_take (List.mem_of_mem_drop hz))))
      · cases h
  · rename_i e hk
    rw [T.k] at hk
    obtain rfl := kOf_sl hk.symm
    cases hx
    simp only [Option.bind_eq_some_iff] at h
    obtain ⟨j, hj, ⟨l, h', m⟩, hb, h2⟩ := h
    obtain ⟨d2, inf2, T2⟩ := hE.is hj
    split at h2
    · rename_i heq
      cases heq
      cases h2
      obtain ⟨h1, _⟩ := bounds_sound (P := P) (w := w) hb rl rh rm
      refine ⟨_, ?_, .nils⟩
      show (Instr.slice t _ _ _ _).run P w = _
      unfold Instr.slice
      rw [Sem.run_bind, run_underlying T.und, Result.andThen_ok]
      simp [Sem.run_bind, h1 true, Result.andThen_ok, run_sizeOf T2.info]
    · cases h2
  · rename_i e b off len cap hk
    rw [T.k] at hk
    obtain rfl := kOf_sl hk.symm
    cases hx
    simp only [Option.bind_eq_some_iff, Option.some.injEq] at h
    obtain ⟨j, hj, ⟨l, h', m⟩, hb, rfl⟩ := h
    obtain ⟨d2, inf2, T2⟩ := hE.is hj
    obtain ⟨h1, _⟩ := bounds_sound (P := P) (w := w) hb rl rh rm
    refine ⟨_, ?_, slOf_rep ‹_›⟩
    show (Instr.slice t _ _ _ _).run P w = _
    unfold Instr.slice
    rw [Sem.run_bind, run_underlying T.und, Result.andThen_ok]
    simp only [Sem.run_bind, h1 true, Result.andThen_ok, run_sizeOf T2.info, Sem.run_pure, T2.size, Option.map_some]
    split <;> rfl
  · rename_i e b off len low sz hk
    rw [T.k] at hk
    obtain rfl := kOf_sl hk.symm
    cases hx
    rename_i b' n c hσ hlc hll hn
    simp only [Option.bind_eq_some_iff] at h
    obtain ⟨j, hj, h⟩ := h
    obtain ⟨d2, inf2, T2⟩ := hE.is hj
    split at h
    · cases hz : Nat.beq sz j.size with
      | false => rw [hz] at h; cases h
      | true =>
        rw [hz] at h
        simp only [cond_true, Option.bind_eq_some_iff] at h
        obtain ⟨⟨l, h', m⟩, hb, h⟩ := h
        have hsz := Nat.eq_of_beq_eq_true hz
        obtain ⟨_, h2, _⟩ := bounds_sound (P := P) (w := w) hb rl rh rm
        obtain ⟨hm, h3⟩ := h2 rfl
        simp only [sloOf] at h
        cases hc : (Nat.beq l 0 || Nat.blt l low) with
        | false =>
          rw [hc] at h
          simp only [cond_false] at h
          cases he : Nat.beq h' l with
          | false => rw [he] at h; cases h
          | true =>
            rw [he] at h
            simp only [cond_true, Option.some.injEq] at h
            subst h
            obtain rfl := Nat.eq_of_beq_eq_true he
            refine ⟨.slice (some (if c = h' then ⟨b', off, none⟩ else (⟨b', off, none⟩ : Addr).add (h' * j.size))) 0 (c - h'), ?_, .emp _ _⟩
            show (Instr.slice t _ _ _ _).run P w = _
            unfold Instr.slice
            rw [Sem.run_bind, run_underlying T.und, Result.andThen_ok]
            simp only [Sem.run_bind, (h3 true c hlc hll).1, Result.andThen_ok, run_sizeOf T2.info, Sem.run_pure, T2.size, Option.map_some, Nat.sub_self]
            split <;> rfl
        | true =>
          rw [hc] at h
          simp only [cond_true, Option.some.injEq] at h
          subst h
          have hll2 := (h3 true c hlc hll).2
          simp only [Bool.or_eq_true, beq_d, blt_d, decide_eq_true_iff] at hc
          refine ⟨.slice (some ⟨b', off + l * sz, none⟩) (h' - l) (c - l), ?_, ?_⟩
          · show (Instr.slice t _ _ _ _).run P w = _
            unfold Instr.slice
            rw [Sem.run_bind, run_underlying T.und, Result.andThen_ok]
            simp only [Sem.run_bind, (h3 true c hlc hll).1, Result.andThen_ok, run_sizeOf T2.info, Sem.run_pure, Option.map_some, addr_add, ← T2.size, ← hsz]
            split
            · rename_i e
              have : l = 0 := by omega
              subst this
              simp
            · rfl
          · refine .slo _ _ _ _ _ _ n _ hσ (by omega) (by omega) ?_
            have : l * sz + (c - l) * sz = c * sz := by rw [← Nat.add_mul]; congr 1; omega
            omega
    · simp only [Option.bind_eq_some_iff, Option.some.injEq] at h
      obtain ⟨⟨l, h', m⟩, hb, rfl⟩ := h
      obtain ⟨_, _, h3⟩ := bounds_sound (P := P) (w := w) hb rl rh rm
      refine ⟨_, ?_, slOf_rep hσ⟩
      show (Instr.slice t _ _ _ _).run P w = _
      unfold Instr.slice
      rw [Sem.run_bind, run_underlying T.und, Result.andThen_ok]
      simp only [Sem.run_bind, h3 (by simp) true c hlc, Result.andThen_ok, run_sizeOf T2.info, Sem.run_pure, T2.size, Option.map_some]
      split <;> rfl
  · rename_i e hk
    rw [T.k] at hk
    obtain rfl := kOf_sl hk.symm
    cases hx
    rename_i aa c
    simp only [Option.bind_eq_some_iff] at h
    obtain ⟨j, hj, h⟩ := h
    obtain ⟨d2, inf2, T2⟩ := hE.is hj
    split at h
    · simp only [Option.bind_eq_some_iff, Option.some.injEq] at h
      obtain ⟨⟨l, h', m⟩, hb, rfl⟩ := h
      obtain ⟨_, h2, _⟩ := bounds_sound (P := P) (w := w) hb rl rh rm
      obtain ⟨hm, h3⟩ := h2 rfl
      have h4 := h3 true c (Nat.zero_le _) (Nat.le_refl _)
      have hl0 : l = 0 ∧ h' = 0 := by have := h4.2; omega
      obtain ⟨rfl, rfl⟩ := hl0
      refine ⟨.slice (if c = 0 then aa else aa.map (·.add (0 * j.size))) 0 c, ?_, .emp _ _⟩
      show (Instr.slice t _ _ _ _).run P w = _
      unfold Instr.slice
      rw [Sem.run_bind, run_underlying T.und, Result.andThen_ok]
      simp only [Sem.run_bind, h4.1, Result.andThen_ok, run_sizeOf T2.info, Sem.run_pure, T2.size, Nat.sub_zero]
    · cases h
  · rename_i n e b off hk
    rw [T.k] at hk
    obtain rfl := kOf_arr hk.symm
    cases hx
    simp only [Option.bind_eq_some_iff, Option.some.injEq] at h
    obtain ⟨j, hj, ⟨l, h', m⟩, hb, rfl⟩ := h
    obtain ⟨d2, inf2, T2⟩ := hE.is hj
    obtain ⟨h1, _⟩ := bounds_sound (P := P) (w := w) hb rl rh rm
    refine ⟨_, ?_, slOf_rep ‹_›⟩
    simp only [Instr.sureAddr, Sem.run_bind, Sem.run_pure, h1 false, Result.andThen_ok, run_sizeOf T2.info, T2.size]
  · cases h
end
end Go.Proofs.YtehbfpcfbpbllaaGreatDoor.VM
