/- The machine of plain data: conversions, lengths, maps, assertions; all operations that make nothing and change nothing. No program in sight. -/
import Derived.Test.YtehbfpcfbpbllaaGreatDoorVmL
import Derived.Laws.BytesString
import Derived.MapKept
namespace Go.Proofs.YtehbfpcfbpbllaaGreatDoor.VM
open Go Go.RowKit
set_option linter.unusedSectionVars false
variable [Sy]
section
variable {P : Program} {E : Env} {σ : Mp} {w : World} {N : Nat} {h : Hp}
theorem strV_sound : ∀ {l : List V} {xs : List Value} {s : List Nat}, strV l = some s → RepL σ l xs → (∃ ns : List Int, xs = ns.map (Value.int .u8) ∧ ns = s.map fun (n : Nat) => (n : Int)) ∧ ∀ b ∈ s, b < 256
  | [], _, s, h, .nil => by simp only [strV, Option.some.injEq] at h; subst h; exact ⟨⟨[], rfl, rfl⟩, by simp⟩
  | .int .u8 (.ofNat n) :: r, _, s, h, .cons _ x _ y hr hl => by
    rw [strV] at h
    cases hb : Nat.blt n 256 with
    | false => rw [hb] at h; cases h
    | true =>
      rw [hb] at h
      simp only [cond_true, Option.bind_eq_some_iff, Option.some.injEq] at h
      obtain ⟨l, h1, rfl⟩ := h
      obtain ⟨⟨ns, e1, e2⟩, h3⟩ := strV_sound h1 hl
      cases hr
      refine ⟨⟨(n : Int) :: ns, by rw [e1]; rfl, by rw [e2]; rfl⟩, fun b hb2 => ?_⟩
      rcases List.mem_cons.1 hb2 with rfl | h4
      · rw [blt_d, decide_eq_true_iff] at hb; exact hb
      · exact h3 b h4
theorem push_fold : ∀ (s : List Nat) (b : ByteArray), ((s.map fun (n : Nat) => (n : Int)).foldl (fun r n => r.push (UInt8.ofNat n.toNat)) b).data.toList = b.data.toList ++ s.map Nat.toUInt8
  | [], b => by simp
  | n :: s, b => by
    rw [List.map_cons, List.foldl_cons, push_fold s]
    simp [ByteArray.push, Nat.toUInt8]
theorem denL_rep {σ : Mp} : ∀ {l : List V} {xs : List Value}, RepL σ l xs → RepL σ (l.map den) xs
  | [], _, .nil => .nil
  | _ :: _, _, .cons _ _ _ _ h1 h2 => .cons _ _ _ _ (den_rep h1) (denL_rep h2)
theorem repL_den {σ : Mp} : ∀ {l : List V} {xs : List Value}, RepL σ (l.map den) xs → RepL σ l xs
  | [], _, .nil => .nil
  | _ :: _, _, .cons _ _ _ _ h1 h2 => .cons _ _ _ _ (rep_den h1) (repL_den h2)
theorem toStr_soundD {b n : Nat} {vs : List V} (A : At σ w b n vs) {off len cap : Nat} {l : List V} {s : List Nat} (hs : sub vs off len = some l) (hl : strV (l.map den) = some s) :
    (Conv.bytesToString (.slice (some ⟨b, off, none⟩) len cap)).run P w = .ok (.string (bytesOf s)) w ∧ ∀ b ∈ s, b < 256 := by
  obtain ⟨xs, hr, hx⟩ := A.cells (P := P) hs
  obtain ⟨⟨ns, rfl, rfl⟩, h3⟩ := strV_sound hl (denL_rep hr)
  refine ⟨?_, h3⟩
  rw [run_bytesToString w _ _ _ _ hx]
  congr 2
  have := push_fold s ByteArray.empty
  generalize (s.map fun (n : Nat) => (n : Int)).foldl (fun r n => r.push (UInt8.ofNat n.toNat)) ByteArray.empty = q at this ⊢
  obtain ⟨⟨l⟩⟩ := q
  simp only [bytesOf]
  congr 2
theorem strV_den : ∀ {l : List V} {s : List Nat}, strV l = some s → strV (l.map den) = some s
  | [], _, h => h
  | .int .u8 (.ofNat n) :: r, s, h => by
    rw [strV] at h
    rw [List.map_cons]
    show strV (.int .u8 (.ofNat n) :: r.map den) = some s
    rw [strV]
    cases hb : Nat.blt n 256 with
    | false => rw [hb] at h; cases h
    | true =>
      rw [hb] at h
      simp only [cond_true, Option.bind_eq_some_iff, Option.some.injEq] at h ⊢
      obtain ⟨l, h1, rfl⟩ := h
      exact ⟨l, strV_den h1, rfl⟩
theorem toStr_sound (hE : EnvOK P E) {b n : Nat} {vs : List V} (A : At σ w b n vs) {off len cap : Nat} {l : List V} {v : V} (hs : sub vs off len = some l) (hl : strW E l = some v) :
    ∃ r, (Conv.bytesToString (.slice (some ⟨b, off, none⟩) len cap)).run P w = .ok r w ∧ Rep σ v r := by
  unfold strW at hl
  split at hl
  · rename_i s h1
    cases hl
    obtain ⟨h2, h3⟩ := toStr_soundD (P := P) (cap := cap) A hs (strV_den h1)
    exact ⟨_, h2, .str _ h3⟩
  · obtain ⟨s, e1, e2⟩ := hE.so.text _ _ hl
    obtain ⟨h2, h3⟩ := toStr_soundD (P := P) (cap := cap) A hs e1
    exact ⟨_, h2, rep_den (by rw [e2]; exact .str _ h3)⟩
theorem encode_small : ∀ n : Nat, n < 128 → Utf8.encode (n : Int) = bytesOf [n] := by
  intro n hn
  have h1 : Utf8.valid (n : Int) = true := by simp [Utf8.valid]; omega
  simp only [Utf8.encode, h1, if_true, Int.toNat_natCast]
  rw [if_pos (by omega)]
  rfl
theorem convStr_sound (hE : EnvOK P E) (R : Rel N σ h w) {e : TypeId} {x : V} {a : Value} {v : V} (hc : convStr E h e x = some v) (hx : Rep σ x a) : ∃ d, P.underlying e = some d ∧ d = .int .u8 ∧ ∃ r, (Conv.bytesToString a).run P w = .ok r w ∧ Rep σ v r ∧ ∃ p l c, a = .slice p l c := by
  simp only [convStr, Option.bind_eq_some_iff] at hc
  obtain ⟨m, hm, hc⟩ := hc
  obtain ⟨d, inf, T⟩ := hE.is hm
  refine ⟨d, T.und, ?_⟩
  split at hc <;> first | (cases hc; done) | skip
  all_goals rename_i hk
  all_goals rw [T.k] at hk
  all_goals (obtain rfl := kOf_int hk.symm)
  all_goals refine ⟨rfl, ?_⟩
  · cases hx
    simp only [Option.some.injEq] at hc
    subst hc
    exact ⟨.string .empty, rfl, .str [] (by simp), _, _, _, rfl⟩
  · cases hx
    rename_i aa c
    simp only [Option.some.injEq] at hc
    subst hc
    refine ⟨.string .empty, ?_, .str [] (by simp), _, _, _, rfl⟩
    cases aa with
    | none => rfl
    | some a => rfl
  · cases hx
    simp only [Option.bind_eq_some_iff] at hc
    obtain ⟨vs, h1, l, h2, h3⟩ := hc
    obtain ⟨r, h4, h5⟩ := toStr_sound hE (R.at_ ‹_› h1) h2 h3
    exact ⟨r, h4, h5, _, _, _, rfl⟩
  · cases hx
    simp only [Option.bind_eq_some_iff] at hc
    obtain ⟨vs, h1, l, h2, h3⟩ := hc
    obtain ⟨r, h4, h5⟩ := toStr_sound hE (R.at_ ‹_› h1) h2 h3
    exact ⟨r, h4, h5, _, _, _, rfl⟩
theorem conv_sound (hE : EnvOK P E) (R : Rel N σ h w) {s d : TypeId} {x : V} {a : Value} {v : V} (hc : vconv E h s d x = some v) (hx : Rep σ x a) : ∃ r, (convert s d a).run P w = .ok r w ∧ Rep σ v r := by
  simp only [vconv, Option.bind_eq_some_iff] at hc
  obtain ⟨i, hi, j, hj, hc⟩ := hc
  obtain ⟨d1, inf1, T1⟩ := hE.is hi
  obtain ⟨d2, inf2, T2⟩ := hE.is hj
  unfold convert
  rw [Sem.run_bind, run_underlying T1.und, Result.andThen_ok, Sem.run_bind, run_underlying T2.und, Result.andThen_ok]
  split at hc
  · rename_i k _ n hk
    rw [T2.k] at hk
    obtain rfl := kOf_int hk.symm
    cases hx
    simp only [Option.some.injEq] at hc
    subst hc
    exact ⟨.int k (k.wrap n), rfl, by rw [mkInt_eq]; exact .int _ _⟩
  · rename_i k l j' hk
    rw [T2.k] at hk
    obtain rfl := kOf_int hk.symm
    cases hx
    obtain ⟨l', n, e1, e2⟩ := hE.so.conv _ _ _ hc
    cases e1
    exact ⟨.int k (k.wrap (Sy.i j')), rfl, rep_den (by rw [e2]; exact .int _ _)⟩
  · rename_i s hk
    rw [T2.k] at hk
    obtain rfl := kOf_str hk.symm
    cases hx with
    | str _ hs =>
      simp only [Option.some.injEq] at hc
      subst hc
      exact ⟨_, rfl, .str _ hs⟩
  · rename_i k n hk
    rw [T2.k] at hk
    obtain rfl := kOf_str hk.symm
    cases hx
    cases hb : Nat.blt n 128 with
    | false => rw [hb] at hc; cases hc
    | true =>
      rw [hb] at hc
      simp only [cond_true, Option.some.injEq] at hc
      subst hc
      rw [blt_d, decide_eq_true_iff] at hb
      refine ⟨_, rfl, ?_⟩
      show Rep σ _ (.string (Utf8.encode (n : Int)))
      rw [encode_small n hb]
      exact .str _ (by simp; omega)
  · rename_i q hk
    rw [T2.k] at hk
    obtain rfl := kOf_str hk.symm
    cases hx with
    | symS _ hs =>
      simp only [Option.some.injEq] at hc
      subst hc
      exact ⟨_, rfl, .symS _ hs⟩
  · rename_i k q hk
    rw [T2.k] at hk
    obtain rfl := kOf_str hk.symm
    cases hx
    obtain ⟨n, hn, e1, e2⟩ := hE.so.char _ _ _ hc
    refine ⟨_, rfl, ?_⟩
    rw [e1]
    show Rep σ _ (.string (Utf8.encode (n : Int)))
    rw [encode_small n hn]
    exact rep_den (by rw [e2]; exact .str _ (by simp; omega))
  · rename_i hk hn1 hn2 hn3 hn4
    rw [T2.k] at hk
    obtain rfl := kOf_str hk.symm
    split at hc
    · rename_i e hk1
      rw [T1.k] at hk1
      obtain rfl := kOf_sl hk1.symm
      obtain ⟨d, hd, rfl, r, h1, h2, p, l, c, rfl⟩ := convStr_sound hE R hc hx
      refine ⟨r, ?_, h2⟩
      show (do match ← underlying e with | .int .u8 => Conv.bytesToString (.slice p l c) | .int .i32 => Conv.runesToString (.slice p l c) | _ => stuck "Convert: a slice of what to string?" : Sem Value).run P w = _
      rw [Sem.run_bind, run_underlying hd, Result.andThen_ok]
      exact h1
    · cases hc
  · cases hc
theorem Rel.map_ (R : Rel N σ h w) {B b n : Nat} (e : σ B = some (b, n)) {es : List (V × V × Nat)} {c : Nat} (hv : h.t.get B = some (.map es c)) :
    ∃ ms, w.heap[b]? = some (.map ms.toArray c) ∧ RepE σ es ms := by
  obtain ⟨_, hb, k, hk, ho⟩ := R.has B b n e
  rw [hv] at hk
  cases hk
  obtain ⟨ms, h1, h2⟩ := ho _ (Array.getElem?_eq_getElem hb)
  exact ⟨ms, by rw [Array.getElem?_eq_getElem hb, h1], h2⟩
theorem RepE.length {σ : Mp} : ∀ {l : List (V × V × Nat)} {m : List MapEntry}, RepE σ l m → l.length = m.length
  | _, _, .nil => rfl
  | _, _, .cons _ _ _ _ _ _ _ _ _ s => by simp [RepE.length s]
/-- capacities -/
theorem cap_sound (hE : EnvOK P E) {x : V} {a : Value} {v : V} {ts : Array TypeId} {ty : TypeId} (hc : vcap E ts x = some v) (hx : Rep σ x a) : ∃ r, (Builtin.cap_ ts ty #[a]).run P w = .ok r w ∧ Rep σ v r := by
  simp only [vcap, Option.bind_eq_some_iff] at hc
  obtain ⟨t, ht, i, hi, hc⟩ := hc
  obtain ⟨d, inf, T⟩ := hE.is hi
  split at hc <;> first | (cases hc; done) | skip
  all_goals
    rename_i hk
    rw [T.k] at hk
    obtain rfl := kOf_sl hk.symm
    cases hx
    simp only [Option.some.injEq] at hc
    subst hc
    exact ⟨_, (by simp only [Builtin.cap_, ht, List.getElem?_toArray, List.getElem?_cons_zero]; rw [Sem.run_bind, run_underlying T.und, Result.andThen_ok]; rfl), .int _ _⟩
/-- lengths -/
theorem len_sound (hE : EnvOK P E) (R : Rel N σ h w) {x : V} {a : Value} {v : V} {ts : Array TypeId} {ty : TypeId} (hc : vlen E h ts x = some v) (hx : Rep σ x a) : ∃ r, (Builtin.len_ ts ty #[a]).run P w = .ok r w ∧ Rep σ v r := by
  simp only [vlen, Option.bind_eq_some_iff] at hc
  obtain ⟨t, ht, i, hi, hc⟩ := hc
  obtain ⟨d, inf, T⟩ := hE.is hi
  split at hc <;> first | (cases hc; done) | skip
  · rename_i hk
    rw [T.k] at hk
    obtain rfl := kOf_str hk.symm
    cases hx
    simp only [Option.some.injEq] at hc
    subst hc
    refine ⟨_, (by simp only [Builtin.len_, ht, List.getElem?_toArray, List.getElem?_cons_zero]; rw [Sem.run_bind, run_underlying T.und, Result.andThen_ok]; rfl), ?_⟩
    rw [mkInt_eq, bytesOf_size]
    exact .int _ _
  · rename_i q hk
    rw [T.k] at hk
    obtain rfl := kOf_str hk.symm
    cases hx
    obtain ⟨s, e1, rfl⟩ := hE.so.len _ _ hc
    cases e1
    refine ⟨_, (by simp only [Builtin.len_, ht, List.getElem?_toArray, List.getElem?_cons_zero]; rw [Sem.run_bind, run_underlying T.und, Result.andThen_ok]; rfl), ?_⟩
    rw [bytesOf_size]
    exact .int _ _
  · rename_i hk
    rw [T.k] at hk
    obtain rfl := kOf_sl hk.symm
    cases hx
    simp only [Option.some.injEq] at hc
    subst hc
    exact ⟨_, (by simp only [Builtin.len_, ht, List.getElem?_toArray, List.getElem?_cons_zero]; rw [Sem.run_bind, run_underlying T.und, Result.andThen_ok]; rfl), .int _ _⟩
  · rename_i hk
    rw [T.k] at hk
    obtain rfl := kOf_sl hk.symm
    cases hx
    simp only [Option.some.injEq] at hc
    subst hc
    exact ⟨_, (by simp only [Builtin.len_, ht, List.getElem?_toArray, List.getElem?_cons_zero]; rw [Sem.run_bind, run_underlying T.und, Result.andThen_ok]; rfl), .int _ _⟩
  · rename_i hk
    rw [T.k] at hk
    obtain rfl := kOf_sl hk.symm
    cases hx
    simp only [Option.some.injEq] at hc
    subst hc
    exact ⟨_, (by simp only [Builtin.len_, ht, List.getElem?_toArray, List.getElem?_cons_zero]; rw [Sem.run_bind, run_underlying T.und, Result.andThen_ok]; rfl), .int _ _⟩
  · rename_i hk
    rw [T.k] at hk
    obtain rfl := kOf_sl hk.symm
    cases hx
    simp only [Option.some.injEq] at hc
    subst hc
    exact ⟨_, (by simp only [Builtin.len_, ht, List.getElem?_toArray, List.getElem?_cons_zero]; rw [Sem.run_bind, run_underlying T.und, Result.andThen_ok]; rfl), .int _ _⟩
  · rename_i hk
    rw [T.k] at hk
    obtain rfl := kOf_map hk.symm
    cases hx
    simp only [Option.some.injEq] at hc
    subst hc
    exact ⟨_, (by simp only [Builtin.len_, ht, List.getElem?_toArray, List.getElem?_cons_zero]; rw [Sem.run_bind, run_underlying T.und, Result.andThen_ok]; rfl), .int _ _⟩
  · rename_i hk
    rw [T.k] at hk
    obtain rfl := kOf_map hk.symm
    cases hx
    split at hc
    · rename_i es c hb
      simp only [Option.some.injEq] at hc
      subst hc
      obtain ⟨ms, h1, h2⟩ := R.map_ ‹_› hb
      refine ⟨goInt ms.length, ?_, ?_⟩
      · simp only [Builtin.len_, ht, List.getElem?_toArray, List.getElem?_cons_zero]
        rw [Sem.run_bind, run_underlying T.und, Result.andThen_ok]
        simp only [Sem.run_bind, MapKept.run_getObj_map h1, Result.andThen_ok]
        simp
      · rw [mkInt_eq, h2.length]
        exact .int _ _
    · cases hc
theorem min_sound {lt : Bool} {l : List V} {xs : List Value} {v : V} {ts : Array TypeId} {ty : TypeId} (hc : vmin lt l = some v) (hx : RepL σ l xs) :
    ∃ r, (if lt then Builtin.min_ ts ty xs.toArray else Builtin.max_ ts ty xs.toArray).run P w = .ok r w ∧ Rep σ v r := by
  have key : ∀ (l : List V) (xs : List Value) (k : IntKind) (a : Int), vminF lt k a l = some v → RepL σ l xs → ∃ n, v = .int k n ∧ (xs.foldlM (if lt then Builtin.min2 else Builtin.max2) (.int k a)).run P w = .ok (.int k n) w := by
    intro l
    induction l with
    | nil =>
      intro xs k a hc hx
      cases hx
      simp only [vminF, Option.some.injEq, mkInt_eq] at hc
      exact ⟨a, hc.symm, rfl⟩
    | cons u r ih =>
      intro xs k a hc hx
      cases hx with
      | cons _ x _ y hr hl =>
        cases hr <;> simp only [vminF] at hc <;> (try (cases hc; done))
        rename_i j b
        cases hk : keq k j with
        | false => rw [hk] at hc; cases hc
        | true =>
          rw [hk] at hc
          obtain rfl := keq_eq hk
          obtain ⟨n, e1, e2⟩ := ih _ _ _ hc hl
          refine ⟨n, e1, ?_⟩
          rw [List.foldlM_cons, Sem.run_bind]
          cases lt with
          | true =>
            simp only [if_true, Builtin.min2, Sem.run_pure, Result.andThen_ok] at e2 ⊢
            rw [← e2]
            congr 3
            simp only [cond_true, ilt_eq]
            by_cases h : b < a <;> simp [h]
          | false =>
            simp only [Bool.false_eq_true, if_false, Builtin.max2, Sem.run_pure, Result.andThen_ok] at e2 ⊢
            rw [← e2]
            congr 3
            simp only [cond_false, ilt_eq]
            by_cases h : a < b <;> simp [h]
  cases hx with
  | nil => simp [vmin] at hc
  | cons u x l y hr hl =>
    cases hr <;> simp only [vmin] at hc <;> (try (cases hc; done))
    obtain ⟨n, e1, e2⟩ := key _ _ _ _ hc hl
    refine ⟨_, ?_, by rw [e1]; exact .int _ _⟩
    cases lt with
    | true => simpa [Builtin.min_] using e2
    | false => simpa [Builtin.max_] using e2
theorem minS_sound (hE : EnvOK P E) {lt : Bool} {l : List V} {xs : List Value} {v : V} {ts : Array TypeId} {ty : TypeId} (hc : vminS E lt l = some v) (hx : RepL σ l xs) :
    ∃ r, (if lt then Builtin.min_ ts ty xs.toArray else Builtin.max_ ts ty xs.toArray).run P w = .ok r w ∧ Rep σ v r := by
  unfold vminS at hc
  split at hc
  · rename_i v' h1
    cases hc
    exact min_sound h1 hx
  · obtain ⟨r, h1, h2⟩ := min_sound (ts := ts) (ty := ty) (P := P) (w := w) (hE.so.min _ _ _ hc) (denL_rep hx)
    exact ⟨r, h1, rep_den h2⟩
theorem vzero_sound (hE : EnvOK P E) {t : TypeId} {v : V} (hc : vzero E t = some v) : ∃ r, (∀ w : World, (zeroValue t).run P w = .ok r w) ∧ Rep σ v r := by
  simp only [vzero, Option.bind_eq_some_iff] at hc
  obtain ⟨i, hi, hc⟩ := hc
  obtain ⟨d, inf, T⟩ := hE.is hi
  rw [T.zv, Option.bind_eq_some_iff] at hc
  obtain ⟨z, hz, hc⟩ := hc
  exact ⟨z, fun w => run_zeroValue T.info hz, ofVal_rep hc⟩
theorem assert_sound (hE : EnvOK P E) {x : V} {a : Value} {s t : TypeId} {ok : Bool} {v : V} (hc : vtypeAssert E x t ok = some v) (hx : Rep σ x a) : ∃ r, (Instr.typeAssert a s t ok).run P w = .ok r w ∧ Rep σ v r := by
  simp only [vtypeAssert, Option.bind_eq_some_iff] at hc
  obtain ⟨i, hi, hc⟩ := hc
  obtain ⟨d, inf, T⟩ := hE.is hi
  have hfail : ∀ v' : V, (bif ok then (vzero E t).bind fun z => some (.tup [z, .bool false]) else none) = some v' → ∃ z r, ok = true ∧ (∀ w : World, (zeroValue t).run P w = .ok r w) ∧ Rep σ z r ∧ v' = .tup [z, .bool false] := fun v' h2 => by
    cases ok with
    | false => cases h2
    | true =>
      simp only [cond_true, Option.bind_eq_some_iff, Option.some.injEq] at h2
      obtain ⟨z, hz, rfl⟩ := h2
      obtain ⟨r, h1, h3⟩ := vzero_sound (σ := σ) hE hz
      exact ⟨z, r, rfl, h1, h3, rfl⟩
  have htup : ∀ {z : V} {r : Value} {b : Bool}, Rep σ z r → Rep σ (.tup [z, .bool b]) (.tuple #[r, .bool b]) := fun h => .tup _ _ (.cons _ _ _ _ h (.one (.bool _)))
  split at hc
  · cases hc
  · rename_i u q hk
    have hd : ∀ ms, d ≠ .interface ms := fun ms e => by subst e; exact hk ms (by rw [T.k]; rfl)
    cases hx with
    | iface _ _ y hr =>
      cases hb : Nat.beq u t with
      | true =>
        rw [hb] at hc
        simp only [cond_true, Option.some.injEq] at hc
        obtain rfl := Nat.eq_of_beq_eq_true hb
        subst hc
        cases ok with
        | true =>
          refine ⟨.tuple #[y, .bool true], ?_, htup hr⟩
          unfold Instr.typeAssert
          rw [Sem.run_bind, run_underlying T.und, Result.andThen_ok]
          cases d <;> first | exact absurd rfl (hd _) | simp
        | false =>
          refine ⟨y, ?_, hr⟩
          unfold Instr.typeAssert
          rw [Sem.run_bind, run_underlying T.und, Result.andThen_ok]
          cases d <;> first | exact absurd rfl (hd _) | simp
      | false =>
        rw [hb] at hc
        simp only [cond_false] at hc
        obtain ⟨z, r, rfl, h1, h2, rfl⟩ := hfail _ hc
        refine ⟨.tuple #[r, .bool false], ?_, htup h2⟩
        have hne : ¬ u = t := fun e => by rw [beq_d] at hb; simp [e] at hb
        unfold Instr.typeAssert
        rw [Sem.run_bind, run_underlying T.und, Result.andThen_ok]
        cases d <;> first | exact absurd rfl (hd _) | simp [hne, h1]
  · rename_i hk
    have hd : ∀ ms, d ≠ .interface ms := fun ms e => by subst e; exact hk ms (by rw [T.k]; rfl)
    cases hx
    obtain ⟨z, r, rfl, h1, h2, rfl⟩ := hfail _ hc
    refine ⟨.tuple #[r, .bool false], ?_, htup h2⟩
    unfold Instr.typeAssert
    rw [Sem.run_bind, run_underlying T.und, Result.andThen_ok]
    cases d <;> first | exact absurd rfl (hd _) | simp [h1]
  · cases hc
/-- keys alike -/
theorem checkFields_run {n : Nat} {e : Bool} {as : List V} {xs : List Value} (ha : RepL σ as xs) : ∀ (fs : List Field) (i : Nat) (ks : List K), plainKs P fs i = some ks → leq ks (as.drop i) (as.drop i) = some true →
    (forIn fs PUnit.unit (fun f _ => if f.name ≠ "_" then do Instr.checkKey e (n + 1) f.type (← part f.type xs.toArray f.offset); pure (ForInStep.yield PUnit.unit) else pure (ForInStep.yield PUnit.unit)) : Sem PUnit).run P w = .ok PUnit.unit w
  | [], i, ks, hk, h => rfl
  | f :: fs, i, ks, hk, h => by
    rw [plainKs] at hk
    cases hn : (f.name != "_" && Nat.beq f.offset i) with
    | false => rw [hn] at hk; cases hk
    | true =>
      rw [hn] at hk
      simp only [cond_true, Option.bind_eq_some_iff, Option.some.injEq] at hk
      obtain ⟨d, hd, k, hk1, l, hl, rfl⟩ := hk
      simp only [Bool.and_eq_true, bne_iff_ne] at hn
      obtain ⟨hn1, hn2⟩ := hn
      have ho := Nat.eq_of_beq_eq_true hn2
      cases h1 : as.drop i with
      | nil => simp only [h1, leq] at h; cases h
      | cons a as' =>
        have g1 : as[i]? = some a := by have := congrArg List.head? h1; simpa using this
        have t1 : as.drop (i + 1) = as' := by have := congrArg List.tail h1; simpa using this
        obtain ⟨x, hx, rx⟩ := ha.get g1
        simp only [h1, leq, Option.bind_eq_some_iff] at h
        obtain ⟨c1, hc1, hc2⟩ := h
        cases c1 with
        | false => simp at hc2
        | true =>
          simp only [cond_true] at hc2
          rw [List.forIn_cons, Sem.run_bind]
          have hck : (Instr.checkKey e (n + 1) f.type x).run P w = .ok () w := by
            unfold Instr.checkKey
            rw [Sem.run_bind, run_underlying hd, Result.andThen_ok]
            cases d <;> simp only [plainK] at hk1 <;> (try (cases hk1; done)) <;> rfl
          simp only [if_pos hn1, Sem.run_bind, plainKs_part hd hk1 (by rw [ho]; exact hx), Result.andThen_ok, hck, Sem.run_pure]
          exact checkFields_run ha fs (i + 1) l hl (by rw [t1]; exact hc2)
theorem checkKey_sound {q : TypeId} {j : TI} {d : TypeDesc} {inf : TypeInfo} (T : TyIs P q j d inf) {k : V} {kx : Value} (hk : keyOK j k = true) (hr : Rep σ k kx) (e : Bool) (n : Nat) : (Instr.checkKey e (n + 2) q kx).run P w = .ok () w := by
  have h0 : veqK j k k = some true := by
    unfold keyOK at hk
    split at hk
    · assumption
    · cases hk
  unfold Instr.checkKey
  rw [Sem.run_bind, run_underlying T.und, Result.andThen_ok]
  unfold veqK at h0
  split at h0
  · rename_i hj _
    rw [T.k] at hj
    obtain rfl := kOf_int hj.symm
    cases hr
    rfl
  · rename_i hj _
    rw [T.k] at hj
    obtain rfl := kOf_str hj.symm
    cases hr
    rfl
  · rename_i fs a b hj hs
    cases hs
    rw [T.k] at hj
    obtain rfl := kOf_struct hj.symm
    cases hr with
    | agg _ xs ha =>
      simp only [aeq, Option.bind_eq_some_iff, T.plain] at h0
      obtain ⟨ks, hks, h0⟩ := h0
      unfold plainOf at hks
      cases hc : (!P.stoodInHeld q && !P.eqGuardType P.depth q) with
      | false => simp only [hc] at hks; cases hks
      | true =>
        simp only [hc, cond_true] at hks
        have := checkFields_run (w := w) (n := n) (e := e) ha fs 0 ks hks (by simpa using h0)
        rw [Sem.run_bind, ← Array.forIn_toList]
        refine (congrArg (fun r => Result.andThen r _) this).trans ?_
        rfl
  · cases h0
theorem leq_same : ∀ {ks : List K} {as bs : List V} {xs ys : List Value}, leq ks as bs = some true → RepL σ as xs → RepL σ bs ys → xs = ys
  | [], [], [], _, _, _, .nil, .nil => rfl
  | k :: ks, a :: as, b :: bs, _, _, h, .cons _ x _ xs hx hxs, .cons _ y _ ys hy hys => by
    simp only [leq, Option.bind_eq_some_iff] at h
    obtain ⟨c, h1, h2⟩ := h
    cases c with
    | false => simp at h2
    | true =>
      simp only [cond_true] at h2
      rw [leq_same h2 hxs hys]
      congr 1
      cases k <;> cases hx <;> cases hy <;> simp only [ceq] at h1 <;> (try (cases h1; done))
      · simp only [Option.some.injEq, beq_iff_eq] at h1; rw [h1]
      · rename_i k1 n1 k2 n2
        cases hq : keq k1 k2 with
        | false => rw [hq] at h1; cases h1
        | true =>
          rw [hq] at h1
          simp only [cond_true, Option.some.injEq, ieq_iff] at h1
          rw [keq_eq hq, h1]
      · rename_i k k1 j1 k2 j2
        cases hq : (keq k k1 && keq k k2 && Nat.beq j1 j2) with
        | false => rw [hq] at h1; cases h1
        | true =>
          simp only [Bool.and_eq_true] at hq
          obtain ⟨⟨q1, q2⟩, q3⟩ := hq
          rw [← keq_eq q1, ← keq_eq q2, Nat.eq_of_beq_eq_true q3]
      · simp only [Option.some.injEq, seq_eq, beq_iff_eq] at h1; rw [h1]
      · rename_i j1 _ j2 _
        cases hq : Nat.beq j1 j2 with
        | false => rw [hq] at h1; cases h1
        | true => rw [Nat.eq_of_beq_eq_true hq]
  | [], _ :: _, _, _, _, h, _, _ => by simp [leq] at h
  | [], [], _ :: _, _, _, h, _, _ => by simp [leq] at h
  | _ :: _, [], _, _, _, h, _, _ => by simp [leq] at h
  | _ :: _, _ :: _, [], _, _, h, _, _ => by simp [leq] at h
theorem veqK_sound {q : TypeId} {j : TI} {d : TypeDesc} {inf : TypeInfo} (T : TyIs P q j d inf) {x y : V} {a b : Value} {c : Bool} (h : veqK j x y = some c) (hx : Rep σ x a) (hy : Rep σ y b) :
    (Instr.sameNow d a b = some c ∨ ((∃ fs, d = .struct fs) ∧ Instr.sameNow d a b = none ∧ (Op.equal q a b).run P w = .ok c w)) ∧ (c = true → a = b) := by
  unfold veqK at h
  split at h
  · rename_i k k1 n1 k2 n2 hj
    rw [T.k] at hj
    obtain rfl := kOf_int hj.symm
    cases hx; cases hy
    cases hq : (keq k1 k2 && keq k1 k) with
    | false => rw [hq] at h; cases h
    | true =>
      rw [hq] at h
      simp only [cond_true, Option.some.injEq] at h
      rw [Bool.and_eq_true] at hq
      obtain rfl := keq_eq hq.1
      subst h
      exact ⟨.inl (by simp [Instr.sameNow, ieq_eq]), fun h => by rw [ieq_iff] at h; rw [h]⟩
  · rename_i s1 s2 hj
    rw [T.k] at hj
    obtain rfl := kOf_str hj.symm
    cases hx with
    | str _ h1 => cases hy with
      | str _ h2 =>
        simp only [Option.some.injEq] at h
        subst h
        refine ⟨.inl ?_, fun h => by rw [seq_eq, beq_iff_eq] at h; rw [h]⟩
        simp only [Instr.sameNow, Option.some.injEq]
        rw [beq_toListBytes, bytesOf_toList, bytesOf_toList, Bool.eq_iff_iff, seq_eq, beq_iff_eq, beq_iff_eq]
        exact ⟨map_inj h1 h2, fun h => by rw [h]⟩
  · rename_i fs as bs hj
    rw [T.k] at hj
    obtain rfl := kOf_struct hj.symm
    cases hx with
    | agg _ xs h1 => cases hy with
      | agg _ ys h2 =>
        refine ⟨.inr ⟨⟨_, rfl⟩, rfl, (aeq_sound T h h1 h2 9998).1⟩, fun hc => ?_⟩
        subst hc
        simp only [aeq, Option.bind_eq_some_iff] at h
        obtain ⟨ks, _, h⟩ := h
        rw [leq_same h h1 h2]
  · cases h
/-- what is found: its place, its value -/
def Found (σ : Mp) (kx : Value) (ms : List MapEntry) (n : Nat) : Option (Nat × V × Nat) → Option (Nat × Value) → Prop
  | none, o => o = none
  | some (m, v, b), o => ∃ e, n ≤ m ∧ ms[m - n]? = some e ∧ o = some (m, e.val) ∧ Rep σ v e.val ∧ e.born = b ∧ e.key = kx
theorem Found.cons {kx : Value} {ms : List MapEntry} {e : MapEntry} {n : Nat} {r : Option (Nat × V × Nat)} {o : Option (Nat × Value)} (h : Found σ kx ms (n + 1) r o) : Found σ kx (e :: ms) n r o := by
  cases r with
  | none => exact h
  | some p =>
    obtain ⟨m, v, b⟩ := p
    obtain ⟨e', h1, h2, h3⟩ := h
    refine ⟨e', by omega, ?_, h3⟩
    have : m - n = (m - (n + 1)) + 1 := by omega
    rw [this, List.getElem?_cons_succ]
    exact h2
theorem findM_now {q : TypeId} {j : TI} {d : TypeDesc} {inf : TypeInfo} (T : TyIs P q j d inf) {k : V} {kx : Value} (hr : Rep σ k kx) (hd : ¬ ∃ fs, d = .struct fs) : ∀ {es : List (V × V × Nat)} {ms : List MapEntry} {n : Nat} {r : Option (Nat × V × Nat)},
    RepE σ es ms → findM j k es n = some r → ∃ o, Instr.findNow d kx ms n = some o ∧ Found σ kx ms n r o
  | [], _, n, r, .nil, h => by simp only [findM, Option.some.injEq] at h; subst h; exact ⟨none, rfl, rfl⟩
  | (qk, v, b) :: es, _, n, r, .cons _ _ _ kq vx _ ms h1 h2 hl, h => by
    simp only [findM, Option.bind_eq_some_iff] at h
    obtain ⟨c, hc, h⟩ := h
    obtain ⟨h3, h4⟩ := veqK_sound (w := (default : World)) T hc hr h1
    rcases h3 with h3 | ⟨h3, _⟩
    · cases c with
      | true =>
        simp only [cond_true, Option.some.injEq] at h
        subst h
        refine ⟨some (n, vx), by simp [Instr.findNow, h3], ⟨⟨kq, vx, b⟩, Nat.le_refl _, by simp, rfl, h2, rfl, (h4 rfl).symm⟩⟩
      | false =>
        simp only [cond_false] at h
        obtain ⟨o, h5, h6⟩ := findM_now T hr hd hl h
        exact ⟨o, by simp [Instr.findNow, h3, h5], h6.cons⟩
    · exact absurd h3 hd
theorem findM_ask {q : TypeId} {j : TI} {d : TypeDesc} {inf : TypeInfo} (T : TyIs P q j d inf) {k : V} {kx : Value} (hr : Rep σ k kx) (hd : ∃ fs, d = .struct fs) : ∀ {es : List (V × V × Nat)} {ms : List MapEntry} {n : Nat} {r : Option (Nat × V × Nat)},
    RepE σ es ms → findM j k es n = some r → ∃ o, (Instr.findAsking q kx ms n).run P w = .ok o w ∧ Found σ kx ms n r o
  | [], _, n, r, .nil, h => by simp only [findM, Option.some.injEq] at h; subst h; exact ⟨none, rfl, rfl⟩
  | (qk, v, b) :: es, _, n, r, .cons _ _ _ kq vx _ ms h1 h2 hl, h => by
    simp only [findM, Option.bind_eq_some_iff] at h
    obtain ⟨c, hc, h⟩ := h
    obtain ⟨h3, h4⟩ := veqK_sound (w := w) T hc hr h1
    obtain ⟨fs, rfl⟩ := hd
    rcases h3 with h3 | ⟨_, _, h3⟩
    · simp [Instr.sameNow] at h3
    · cases c with
      | true =>
        simp only [cond_true, Option.some.injEq] at h
        subst h
        refine ⟨some (n, vx), by simp [Instr.findAsking, h3], ⟨⟨kq, vx, b⟩, Nat.le_refl _, by simp, rfl, h2, rfl, (h4 rfl).symm⟩⟩
      | false =>
        simp only [cond_false] at h
        obtain ⟨o, h5, h6⟩ := findM_ask T hr ⟨fs, rfl⟩ hl h
        exact ⟨o, by simp [Instr.findAsking, h3, h5], h6.cons⟩
theorem findKey_sound {q : TypeId} {j : TI} {d : TypeDesc} {inf : TypeInfo} (T : TyIs P q j d inf) {k : V} {kx : Value} (hr : Rep σ k kx) {es : List (V × V × Nat)} {ms : List MapEntry} {r : Option (Nat × V × Nat)}
    (hl : RepE σ es ms) (h : findM j k es 0 = some r) : ∃ o, (Instr.findKey q kx ms).run P w = .ok o w ∧ Found σ kx ms 0 r o := by
  unfold Instr.findKey
  rw [Sem.run_bind, run_underlying T.und, Result.andThen_ok]
  by_cases hd : ∃ fs, d = .struct fs
  · obtain ⟨o, h1, h2⟩ := findM_ask (w := w) T hr hd hl h
    refine ⟨o, ?_, h2⟩
    cases hl with
    | nil =>
      simp only [Instr.findNow, Sem.run_pure]
      exact h1
    | cons qk v n kq vx es ms r1 r2 r3 =>
      have : Instr.findNow d kx (⟨kq, vx, n⟩ :: ms) 0 = none := by
        simp only [findM, Option.bind_eq_some_iff] at h
        obtain ⟨c, hc, h⟩ := h
        rcases (veqK_sound (w := w) T hc hr r1).1 with h3 | ⟨_, h3, _⟩
        · obtain ⟨fs, rfl⟩ := hd
          simp [Instr.sameNow] at h3
        · simp [Instr.findNow, h3]
      rw [this]
      exact h1
  · obtain ⟨o, h1, h2⟩ := findM_now T hr hd hl h
    exact ⟨o, by rw [h1]; rfl, h2⟩
theorem mapOf_sound (R : Rel N σ h w) {x : V} {a : Value} {m : List (V × V × Nat) × Nat} (hm : mapOf h x = some m) (hx : Rep σ x a) :
    (a = .map none ∧ m = ([], 0)) ∨ ∃ b ms, a = .map (some b) ∧ w.heap[b]? = some (.map ms.toArray m.2) ∧ RepE σ m.1 ms := by
  cases hx <;> simp only [mapOf] at hm <;> (try (cases hm; done))
  · simp only [Option.some.injEq] at hm
    exact .inl ⟨rfl, hm.symm⟩
  · split at hm
    · rename_i es c hb
      simp only [Option.some.injEq] at hm
      subst hm
      obtain ⟨ms, h1, h2⟩ := R.map_ ‹_› hb
      exact .inr ⟨_, ms, rfl, h1, h2⟩
    · cases hm
theorem lookup_sound (hE : EnvOK P E) (R : Rel N σ h w) {t : TypeId} {x k : V} {a ka : Value} {ok : Bool} {v : V} (hc : vlookup E h t x k ok = some v) (hx : Rep σ x a) (hk : Rep σ k ka) : ∃ r, (Instr.lookup t a ka ok).run P w = .ok r w ∧ Rep σ v r := by
  simp only [vlookup, Option.bind_eq_some_iff] at hc
  obtain ⟨i, hi, hc⟩ := hc
  obtain ⟨d, inf, T⟩ := hE.is hi
  split at hc
  · rename_i q e hkk
    rw [T.k] at hkk
    obtain rfl := kOf_map hkk.symm
    rw [Option.bind_eq_some_iff] at hc
    obtain ⟨j, hj, hc⟩ := hc
    obtain ⟨d2, inf2, T2⟩ := hE.is hj
    cases hok : keyOK j k with
    | false => rw [hok] at hc; cases hc
    | true =>
      rw [hok] at hc
      simp only [cond_true, Option.bind_eq_some_iff] at hc
      obtain ⟨m, hm, r, hf, hc⟩ := hc
      have htup : ∀ {z : V} {r : Value} {b : Bool}, Rep σ z r → Rep σ (bif ok then .tup [z, .bool b] else z) (if ok then .tuple #[r, .bool b] else r) := fun h => by
        cases ok
        · exact h
        · exact .tup _ _ (.cons _ _ _ _ h (.one (.bool _)))
      have hck : ∀ e, (Instr.checkKey e 10000 q ka).run P w = .ok () w := fun e => checkKey_sound T2 hok hk e 9998
      have hend : ∀ {ms : List MapEntry}, RepE σ m.1 ms → ∃ r, (do
          let (v, okk) ← match ← Instr.findKey q ka ms with
            | some (_, v) => pure (v, true)
            | none => pure (← zeroValue e, false)
          pure (if ok then .tuple #[v, .bool okk] else v) : Sem Value).run P w = .ok r w ∧ Rep σ v r := fun {ms} h2 => by
        obtain ⟨o, h4, h5⟩ := findKey_sound (w := w) T2 hk h2 hf
        cases r with
        | none =>
          obtain rfl : o = none := h5
          simp only [Option.bind_eq_some_iff, Option.some.injEq] at hc
          obtain ⟨z, hz, rfl⟩ := hc
          obtain ⟨r, h6, h7⟩ := vzero_sound (σ := σ) hE hz
          refine ⟨_, ?_, htup h7⟩
          simp only [Sem.run_bind, h4, Result.andThen_ok, h6, Sem.run_pure]
        | some p =>
          obtain ⟨n, v', b'⟩ := p
          obtain ⟨e', _, _, rfl, h6, _⟩ := h5
          simp only [Option.some.injEq] at hc
          subst hc
          refine ⟨_, ?_, htup h6⟩
          simp only [Sem.run_bind, h4, Result.andThen_ok, Sem.run_pure]
      rcases mapOf_sound R hm hx with ⟨rfl, h1⟩ | ⟨b, ms, rfl, h1, h2⟩
      · obtain ⟨r, h3, h4⟩ := hend (ms := []) (by rw [h1]; exact .nil)
        refine ⟨r, ?_, h4⟩
        rw [← h3]
        simp only [Instr.lookup, Sem.run_bind, run_underlying T.und, Result.andThen_ok, Sem.run_pure, hck]
        rfl
      · obtain ⟨r, h3, h4⟩ := hend h2
        refine ⟨r, ?_, h4⟩
        rw [← h3]
        simp only [Instr.lookup, Sem.run_bind, run_underlying T.und, Result.andThen_ok, Sem.run_pure, hck, MapKept.run_getObj_map h1]
        rfl
  · cases hc
theorem ifaceV_sound (hE : EnvOK P E) {t : TypeId} {i : TI} {x : V} {a : Value} {v : V} (hi : E.ty.get t = some i) (h : ifaceV t x i = some v) (hx : Rep σ x a) : ∃ r, (Instr.makeInterface t a).run P w = .ok r w ∧ Rep σ v r := by
  obtain ⟨d, inf, T⟩ := hE.is hi
  unfold ifaceV at h
  split at h
  · cases h
  · rename_i hk
    have hd : ∀ ms, d ≠ .interface ms := fun ms e => by subst e; exact hk ms (by rw [T.k]; rfl)
    cases h
    refine ⟨.iface t a, ?_, .iface _ _ _ hx⟩
    unfold Instr.makeInterface
    rw [Sem.run_bind, run_underlying T.und, Result.andThen_ok]
    cases d <;> first | exact absurd rfl (hd _) | rfl
theorem evo_rep {t : Tm} {ρ : Operand → Value} {o : Option Operand} {v : Option V} (hρ : ∀ x ∈ o.toArray, ∀ v, ev t x = some v → Rep σ v (ρ x)) (h : evo t o = some v) : RepO σ v (o.map ρ) := by
  cases o with
  | none => simp only [evo, Option.some.injEq] at h; subst h; exact .none
  | some x =>
    simp only [evo, Option.bind_eq_some_iff, Option.some.injEq] at h
    obtain ⟨u, h1, rfl⟩ := h
    exact .some _ _ (hρ x (by simp) u h1)
theorem run_v {s : Sem Value} {r : Value} (h : s.run P w = .ok r w) : (do pure (Next.value (← s)) : Sem Next).run P w = .ok (.value r) w := by
  rw [Sem.run_bind, h]; rfl
/-- what makes nothing and changes nothing -/
theorem lop_sound (hE : EnvOK P E) (R : Rel N σ h w) {o : Oper} {t : Tm} {ρ : Operand → Value} {v : V} (hl : lop E t h o.op = some v) (hρ : ∀ x ∈ o.op.operands, ∀ v, ev t x = some v → Rep σ v (ρ x)) :
    ∃ x, (execOp ρ o).run P w = .ok (.value x) w ∧ Rep σ v x := by
  obtain ⟨dst, op, type, pos, after, guard⟩ := o
  simp only at hl hρ
  cases op <;> simp only [lop] at hl <;> (try (cases hl; done)) <;> simp only [Op.operands] at hρ
  case move x => exact ⟨_, rfl, hρ x (by simp) v hl⟩
  case pick c a b =>
    simp only [lPick, Option.bind_eq_some_iff] at hl
    obtain ⟨cv, hc, hl⟩ := hl
    have hcr := hρ c (by simp) cv hc
    split at hl
    · generalize hcx : ρ c = cx at hcr
      cases hcr
      refine ⟨ρ a, ?_, hρ a (by simp) v hl⟩
      simp [execOp, hcx, asBool]
    · generalize hcx : ρ c = cx at hcr
      cases hcr
      refine ⟨ρ b, ?_, hρ b (by simp) v hl⟩
      simp [execOp, hcx, asBool]
    · cases hl
  case build ty ps =>
    simp only [lBuild, Option.bind_eq_some_iff] at hl
    obtain ⟨vs, h1, h2⟩ := hl
    have h3 := parts_rep (σ := σ) (ρ := ρ) (fun p hp v hv => hρ p.2 (by simp only [List.mem_toArray, List.mem_map]; exact ⟨p, hp, rfl⟩) v hv) h1
    obtain ⟨r, h4, h5⟩ := build_sound (w := w) hE h2 h3
    refine ⟨r, run_v ?_, h5⟩
    have e : (ps.map fun (i, x) => (i, ρ x)) = (ps.toList.map fun p => (p.1, ρ p.2)).toArray := by apply Array.toList_inj.1; simp
    rw [e]
    exact h4
  case load ty a =>
    simp only [lLoad, Option.bind_eq_some_iff] at hl
    obtain ⟨av, h1, h2⟩ := hl
    have h3 := hρ a (by simp) av h1
    generalize hax : ρ a = ax at h3
    unfold vload at h2
    split at h2
    · cases h3
      rw [Option.bind_eq_some_iff] at h2
      obtain ⟨vs, h4, h5⟩ := h2
      obtain ⟨r, h6, h7⟩ := loadVar_sound hE (R.at_ ‹_› h4) h5
      refine ⟨r, run_v ?_, h7⟩
      simp only [hax, Instr.loadAt, Instr.sureAddr, Sem.run_bind, Sem.run_pure, Result.andThen_ok, h6]
    · cases h3
      obtain ⟨r, h6, h7⟩ := hE.glob _ _ _ _ h2 w (fun p hp => (R.tab p hp).2)
      refine ⟨r, run_v ?_, h7 σ⟩
      simp only [hax, Instr.loadAt, Instr.sureAddr, Sem.run_bind, Sem.run_pure, Result.andThen_ok, h6]
    · cases h2
  case nilCheck x =>
    simp only [lNilCheck, Option.bind_eq_some_iff] at hl
    obtain ⟨xv, h1, h2⟩ := hl
    have h3 := hρ x (by simp) xv h1
    generalize hax : ρ x = ax at h3
    unfold nilCheckV at h2
    split at h2
    · cases h3
      cases h2
      exact ⟨_, by simp [execOp, hax]; rfl, .ptr _ _ _ _ ‹_›⟩
    · cases h3
      cases h2
      rename_i f a1 c1 x1 y1 r1 r2
      exact ⟨.func (.func f) x1.toArray y1.toArray, by simp [execOp, hax], .fn _ _ _ _ _ r1 r2⟩
    · cases h2
  case binOp op ty x y yt =>
    simp only [lBin, Option.bind_eq_some_iff] at hl
    obtain ⟨a, h1, b, h2, h3⟩ := hl
    obtain ⟨r, h4, h5⟩ := binO_sound (w := w) hE h3 (hρ x (by simp) a h1) (hρ y (by simp) b h2)
    exact ⟨r, run_v h4, h5⟩
  case unOp op ty x =>
    simp only [lUn, Option.bind_eq_some_iff] at hl
    obtain ⟨a, h1, h3⟩ := hl
    obtain ⟨r, h4, h5⟩ := unOp_sound (w := w) (P := P) h3 (hρ x (by simp) a h1)
    exact ⟨r, run_v h4, h5⟩
  case convert s d x =>
    simp only [lConv, Option.bind_eq_some_iff] at hl
    obtain ⟨a, h1, h3⟩ := hl
    obtain ⟨r, h4, h5⟩ := conv_sound hE R h3 (hρ x (by simp) a h1)
    exact ⟨r, run_v h4, h5⟩
  case makeInterface ty x =>
    simp only [lIface, Option.bind_eq_some_iff] at hl
    obtain ⟨a, h1, i, h2, h3⟩ := hl
    obtain ⟨r, h4, h5⟩ := ifaceV_sound (w := w) hE h2 h3 (hρ x (by simp) a h1)
    exact ⟨r, run_v h4, h5⟩
  case makeFunc f a c =>
    simp only [lFunc, Option.bind_eq_some_iff, Option.some.injEq] at hl
    obtain ⟨av, h1, cv, h2, rfl⟩ := hl
    have h3 := evs_rep (σ := σ) (ρ := ρ) (fun x hx => hρ x (by simp at hx ⊢; exact .inl hx)) h1
    have h4 := evs_rep (σ := σ) (ρ := ρ) (fun x hx => hρ x (by simp at hx ⊢; exact .inr hx)) h2
    refine ⟨_, run_v rfl, ?_⟩
    have := Rep.fn f _ _ _ _ h3 h4
    have e : ∀ q : Array Operand, q.map ρ = (q.toList.map ρ).toArray := fun q => by apply Array.toList_inj.1; simp
    rw [e, e]
    exact this
  case slice ty x lo hi mx =>
    simp only [lSlice, Option.bind_eq_some_iff] at hl
    obtain ⟨a, h1, l, h2, h', h3, m, h4, h5⟩ := hl
    obtain ⟨r, h6, h7⟩ := slice_sound (w := w) hE h5 (hρ x (by simp) a h1) (evo_rep (ρ := ρ) (fun y hy => hρ y (by simp at hy ⊢; simp [hy])) h2) (evo_rep (ρ := ρ) (fun y hy => hρ y (by simp at hy ⊢; simp [hy])) h3) (evo_rep (ρ := ρ) (fun y hy => hρ y (by simp at hy ⊢; simp [hy])) h4)
    exact ⟨r, run_v h6, h7⟩
  case fieldAddr ty x f =>
    simp only [lFieldAddr, Option.bind_eq_some_iff] at hl
    obtain ⟨a, h1, h3⟩ := hl
    obtain ⟨r, h4, h5⟩ := fieldAddr_sound (w := w) hE h3 (hρ x (by simp) a h1)
    exact ⟨r, run_v h4, h5⟩
  case field ty x f =>
    simp only [lField, Option.bind_eq_some_iff] at hl
    obtain ⟨a, h1, h3⟩ := hl
    obtain ⟨r, h4, h5⟩ := field_sound (w := w) hE h3 (hρ x (by simp) a h1)
    exact ⟨r, run_v h4, h5⟩
  case indexAddr ty x i =>
    simp only [lIndexAddr, Option.bind_eq_some_iff] at hl
    obtain ⟨a, h1, b, h2, h3⟩ := hl
    obtain ⟨r, h4, h5⟩ := indexAddr_sound (w := w) hE h3 (hρ x (by simp) a h1) (hρ i (by simp) b h2)
    exact ⟨r, run_v h4, h5⟩
  case index ty x i =>
    simp only [lIndex, Option.bind_eq_some_iff] at hl
    obtain ⟨a, h1, b, h2, h3⟩ := hl
    obtain ⟨r, h4, h5⟩ := index_sound (w := w) hE h3 (hρ x (by simp) a h1) (hρ i (by simp) b h2)
    exact ⟨r, run_v h4, h5⟩
  case lookup ty x k ok =>
    simp only [lLookup, Option.bind_eq_some_iff] at hl
    obtain ⟨a, h1, b, h2, h3⟩ := hl
    obtain ⟨r, h4, h5⟩ := lookup_sound hE R h3 (hρ x (by simp) a h1) (hρ k (by simp) b h2)
    exact ⟨r, run_v h4, h5⟩
  case typeAssert x xt a ok =>
    simp only [lAssert, Option.bind_eq_some_iff] at hl
    obtain ⟨u, h1, h3⟩ := hl
    obtain ⟨r, h4, h5⟩ := assert_sound (w := w) (s := xt) hE h3 (hρ x (by simp) u h1)
    exact ⟨r, run_v h4, h5⟩
  case extract x i =>
    simp only [lExtract, Option.bind_eq_some_iff] at hl
    obtain ⟨u, h1, h2⟩ := hl
    have h3 := hρ x (by simp) u h1
    generalize hax : ρ x = ax at h3
    unfold extractV at h2
    split at h2
    · cases h3 with
      | tup _ xs hr =>
        obtain ⟨r, h4, h5⟩ := hr.get h2
        refine ⟨r, run_v ?_, h5⟩
        simp [hax, Instr.extract, h4]
    · cases h2
  case call c =>
    obtain ⟨callee, args, ats⟩ := c
    cases callee with
    | value f => cases hl
    | invoke r n => cases hl
    | builtin b =>
      simp only [lCall, Option.bind_eq_some_iff] at hl
      obtain ⟨vs, h1, hl⟩ := hl
      have h2 := evs_rep (σ := σ) (ρ := ρ) (fun x hx => hρ x (by simp [Call.operands]; simpa using hx)) h1
      have e : args.map ρ = (args.toList.map ρ).toArray := by apply Array.toList_inj.1; simp
      have key : ∀ (s : Sem Value) (r : Value), s.run P w = .ok r w → (∀ cs, builtin b ats type cs (args.map ρ) = (do pure (Next.value (← s)) : Sem Next)) → (execOp ρ ⟨dst, .call ⟨.builtin b, args, ats⟩, type, pos, after, guard⟩).run P w = .ok (.value r) w := fun s r h3 h4 => by
        show (do let d ← resolve ρ ⟨.builtin b, args, ats⟩ type; invoke d.target d.args : Sem Next).run P w = _
        simp only [resolve, Sem.run_bind, Sem.run_pure, Result.andThen_ok, invoke]
        rw [h4]
        exact run_v h3
      generalize hys : args.toList.map ρ = ys at h2 e
      cases b <;> simp only [lBuiltin] at hl <;> (try (cases hl; done))
      case len =>
        cases h2 with
        | nil => simp [bLen] at hl
        | cons u x l y hr hl2 =>
          cases hl2 with
          | cons => simp [bLen] at hl
          | nil =>
            simp only [bLen] at hl
            obtain ⟨r, h5, h6⟩ := len_sound (ty := type) hE R hl hr
            exact ⟨r, key _ _ h5 (fun cs => by rw [e]; rfl), h6⟩
      case cap =>
        cases h2 with
        | nil => simp [bCap] at hl
        | cons u x l y hr hl2 =>
          cases hl2 with
          | cons => simp [bCap] at hl
          | nil =>
            simp only [bCap] at hl
            obtain ⟨r, h5, h6⟩ := cap_sound (w := w) (ty := type) hE hl hr
            exact ⟨r, key _ _ h5 (fun cs => by rw [e]; rfl), h6⟩
      case max =>
        obtain ⟨r, h5, h6⟩ := minS_sound (P := P) (w := w) (ts := ats) (ty := type) hE hl h2
        exact ⟨r, key _ _ h5 (fun cs => by rw [e]; rfl), h6⟩
      case min =>
        obtain ⟨r, h5, h6⟩ := minS_sound (P := P) (w := w) (ts := ats) (ty := type) hE hl h2
        exact ⟨r, key _ _ h5 (fun cs => by rw [e]; rfl), h6⟩
end
end Go.Proofs.YtehbfpcfbpbllaaGreatDoor.VM
