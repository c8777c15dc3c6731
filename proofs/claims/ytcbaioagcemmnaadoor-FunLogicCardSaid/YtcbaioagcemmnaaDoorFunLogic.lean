/- The walk of FunLogic. Written by funlogicgen.py. -/
import Derived.Test.YtcbaioagcemmnaaDoorFunMore
namespace Go.Proofs.YtcbaioagcemmnaaDoor
open Go.RowKit Go.Maps
/-- the values that the law's loop lays -/
def lvals (n : Int) (l : List Bool) : Nat → List V3
  | 0 => []
  | k + 1 => (lvals n l k ++ [(3, bN (l.getD k false), ⟨#[]⟩)]) ++ (if (n.tmod 4 == (k : Int) % 4) = true then [(0, 0, ⟨#[]⟩), (2, 0, ⟨#[120]⟩)] else [])
def lAnd (l : List Bool) : Nat → Bool
  | 0 => true
  | k + 1 => lAnd l k && l.getD k false
def lOr (l : List Bool) : Nat → Bool
  | 0 => false
  | k + 1 => lOr l k || l.getD k false
theorem lvals_len (n : Int) (l : List Bool) (k : Nat) : (lvals n l k).length ≤ 3 * k := by
  induction k with
  | zero => simp [lvals]
  | succ k ih =>
    rw [lvals]
    split <;> simp <;> omega
theorem lvals_may (n : Int) (l : List Bool) (k : Nat) : ∀ v ∈ lvals n l k, mayV v ∧ v.1 ≠ 4 := by
  induction k with
  | zero => intro v hv; simp [lvals] at hv
  | succ k ih =>
    intro v hv
    rw [lvals] at hv
    rcases List.mem_append.1 hv with hv | hv
    · rcases List.mem_append.1 hv with hv | hv
      · exact ih v hv
      · simp only [List.mem_cons, List.not_mem_nil, or_false] at hv
        subst hv
        cases l.getD k false <;> exact ⟨by decide, by decide⟩
    · split at hv
      · simp only [List.mem_cons, List.not_mem_nil, or_false] at hv
        rcases hv with rfl | rfl <;> exact ⟨by decide, by decide⟩
      · simp at hv
theorem lvals_yes (n : Int) (l : List Bool) (k : Nat) : yesN (lvals n l (k + 1)) = yesN (lvals n l k) + (if l.getD k false = true then 1 else 0) := by
  rw [lvals, yesN_app, yesN_app, Nat.add_assoc]
  congr 1
  split <;> cases l.getD k false <;> rfl
theorem lvals_no (n : Int) (l : List Bool) (k : Nat) : noN (lvals n l (k + 1)) = noN (lvals n l k) + (if l.getD k false = true then 0 else 1) := by
  rw [lvals, noN_app, noN_app, Nat.add_assoc]
  congr 1
  split <;> cases l.getD k false <;> rfl
theorem lvals_sum (n : Int) (l : List Bool) (k : Nat) : yesN (lvals n l k) + noN (lvals n l k) = k := by
  induction k with
  | zero => rfl
  | succ k ih =>
    rw [lvals_yes, lvals_no]
    split <;> omega
theorem lvals_and (n : Int) (l : List Bool) (k : Nat) : ((noN (lvals n l k) : Int) == 0) = lAnd l k := by
  have h : noN (lvals n l k) = 0 ↔ lAnd l k = true := by
    induction k with
    | zero => exact ⟨fun _ => rfl, fun _ => rfl⟩
    | succ k ih =>
      rw [lvals_no, lAnd, Bool.and_eq_true, ← ih]
      cases l.getD k false <;> simp
  cases hb : lAnd l k with
  | true =>
    have := h.2 hb
    simp [this]
  | false =>
    rw [beq_eq_false_iff_ne]
    intro h2
    have := h.1 (by omega)
    rw [hb] at this
    cases this
theorem lvals_or (n : Int) (l : List Bool) (k : Nat) : decide (0 < yesN (lvals n l k)) = lOr l k := by
  have h : 0 < yesN (lvals n l k) ↔ lOr l k = true := by
    induction k with
    | zero => simp [lvals, yesN, lOr]
    | succ k ih =>
      rw [lvals_yes, lOr, Bool.or_eq_true, ← ih]
      cases l.getD k false <;> simp
  cases hb : lOr l k with
  | true => exact decide_eq_true (h.2 hb)
  | false => exact decide_eq_false (fun h2 => by have := h.1 h2; rw [hb] at this; cases this)
theorem rule_and (A : Option Addr) : (ruleTab A 1 1).atKey (.string (⟨#[65, 78, 68]⟩ : ByteArray).data.toList) .nil = .held (.agg #[.int .i64 1, .int .i64 9223372036854775807, .bool true, .bool true, .func (.func 21) #[.agg #[.slice A 1 1]] #[]]) := by kernel_rfl
theorem rule_or (A : Option Addr) : (ruleTab A 1 1).atKey (.string (⟨#[79, 82]⟩ : ByteArray).data.toList) .nil = .held (.agg #[.int .i64 1, .int .i64 9223372036854775807, .bool true, .bool true, .func (.func 22) #[.agg #[.slice A 1 1]] #[]]) := by kernel_rfl
/-- Call at one range -/
theorem callR (w : World) (G : Nat) (B : Option Addr) (vs : List V3) (cap : Nat) (hA : AtA w (some ⟨G, 0, none⟩) [⟨true, 1, B, vs, cap⟩]) (name : ByteArray) (hn : name.size ≤ maxLen) (td : Bool) (g : Nat)
    (hr : (ruleTab (some ⟨G, 0, none⟩) 1 1).atKey (.string name.data.toList) .nil = .held (.agg #[.int .i64 1, .int .i64 9223372036854775807, .bool true, .bool td, .func (.func g) #[.agg #[.slice (some ⟨G, 0, none⟩) 1 1]] #[]]))
    (he : ∀ v ∈ vs, td = true → v.1 ≠ 4) (rk rn : Int) (rs : ByteArray) (hg : ∀ us W, (callFunc g us).run Tryd.prog W = .ok (.enter g us) W)
    (hc : ∀ W, AtA W (some ⟨G, 0, none⟩) [⟨true, 1, B, vs, cap⟩] → Calls Tryd.prog g #[.agg #[.slice (some ⟨G, 0, none⟩) 1 1]] W fun e W' => e = .returned (.agg #[.int .i64 rk, .int .i64 rn, .string rs]) ∧ Below W.heap.size W W') :
    Calls Tryd.prog 12 #[.string name, .slice (some ⟨G, 0, none⟩) 1 1] w fun e w' => e = .returned (.agg #[.int .i64 rk, .int .i64 rn, .string rs]) ∧ Below w.heap.size w w' :=
  call_any w (some ⟨G, 0, none⟩) [⟨true, 1, B, vs, cap⟩] 1 name hn 1 9223372036854775807 true td g hr hA (by simp) (by simp)
    (fun a ha => by simp only [List.mem_cons, List.not_mem_nil, or_false] at ha; subst ha; exact ⟨fun _ => rfl, fun h => by cases h⟩)
    (fun a ha v hv ht => by simp only [List.mem_cons, List.not_mem_nil, or_false] at ha; subst ha; exact he v hv ht) rk rn rs hg (fun W hW => hc W (hA.below hW))
set_option maxRecDepth 100000 in
set_option maxHeartbeats 4000000 in
theorem funLogic_walk (w : World) (A : Option Addr) (l : List Bool) (c : Nat) (n : Int) (hl : At1 Value.bool w A l) (hn : (Lit.int .u8 n).wf = true) :
    Calls Tryd.prog 7 #[.slice A l.length c, .int .u8 n] w fun e w' => e = .returned (.bool true) ∧ Below w.heap.size w w' := by
  have hn0 : 0 ≤ n ∧ n ≤ 255 := by simpa [Lit.wf, IntKind.min, IntKind.max, IntKind.signed, IntKind.bits] using hn
  have wn : IntKind.i64.wrap n = n := by simp [IntKind.wrap, IntKind.signed, IntKind.bits]; omega
  have hln := hl.1
  clear hn hn0
  by_cases hbig : 20 < l.length
  · have hd : decide (20 < (l.length : Int)) = true := decide_eq_true (by omega)
    go_enter Tryd.func7, Tryd.ntmps7
    go_wp2_with fail
    refine (awake8 _).mono ?_
    rintro e w5 ⟨rfl, hb9⟩
    go_wp2
    go_ret
    exact ⟨rfl, hb9⟩
  have hd : decide (20 < (l.length : Int)) = false := decide_eq_false (by omega)
  go_enter Tryd.func7, Tryd.ntmps7
  go_wp2_with fail
  clear hd
  go_loopw [5, 6, 7, 8] (fun v a o u wr => ∃ k : Nat, k ≤ l.length ∧ u = .int .i64 k ∧ a = .bool (lAnd l k) ∧ o = .bool (lOr l k) ∧ wr.ownsRow w.heap.size 31 3 v (lvals n l k).length (cells3 (lvals n l k)) ∧ Below w.heap.size w wr) (fun _ _ _ u _ => l.length - (intOf u).toNat)
  case atStart => exact ⟨0, Nat.zero_le _, rfl, rfl, rfl, World.ownsRow_nil _ _ _ _, Below.refl _ _⟩
  case round =>
    obtain ⟨k, hk, rfl, rfl, rfl, hown, hb0⟩ := hrel
    obtain ⟨B, cap, rfl, _, _⟩ := own_form hown
    have hsr := hb0.size
    by_cases hlt : k < l.length
    · have hi1 := Lib.hid (show k + 1 ≤ l.length by omega)
      have hi2 := Lib.hid (show l.length - (k + 1) < l.length - k by omega)
      obtain ⟨ad, hAe, hcell⟩ := hl.2 (by omega)
      obtain ⟨b, hb⟩ : ∃ b, l[k]? = some b := ⟨_, List.getElem?_eq_getElem hlt⟩
      have hc := hcell k b hb
      have HC := Lib.hid (fun W (hW : Below w.heap.size w W) => (hW.cell (World.block_lt_of_cell? w _ hc)).trans hc)
      subst hAe
      have hgd : l.getD k false = b := by simp [List.getD, hb]
      have hstep : lvals n l (k + 1) = (lvals n l k ++ [(3, bN (l.getD k false), ⟨#[]⟩)]) ++ (if (n.tmod 4 == (k : Int) % 4) = true then [(0, 0, ⟨#[]⟩), (2, 0, ⟨#[120]⟩)] else []) := rfl
      have hand : lAnd l (k + 1) = (lAnd l k && l.getD k false) := rfl
      have hor : lOr l (k + 1) = (lOr l k || l.getD k false) := rfl
      have hlen3 := lvals_len n l k
      rw [hgd] at hstep hand hor
      obtain ⟨M, hM⟩ : ∃ M, (n.tmod 4 == (k : Int) % 4) = M := ⟨_, rfl⟩
      rw [hM] at hstep
      obtain ⟨L, hL⟩ : ∃ L, lvals n l k = L := ⟨_, rfl⟩
      rw [hL] at hstep hown hlen3 ⊢
      obtain ⟨a9, ha9⟩ : ∃ a9, lAnd l k = a9 := ⟨_, rfl⟩
      rw [ha9] at hand ⊢
      obtain ⟨o9, ho9⟩ : ∃ o9, lOr l k = o9 := ⟨_, rfl⟩
      rw [ho9] at hor ⊢
      have HS := Lib.hid hstep
      have HA := Lib.hid hand
      have HO := Lib.hid hor
      have hLl : L.length ≤ 100 := by omega
      clear hstep hand hor hL ha9 ho9 hb hgd hlen3 hcell hc
      cases b with
      | true =>
        have hbw : Below wr.heap.size wr (wr.alloc (.cells #[.int .i64 3, .int .i64 1, .string ⟨#[]⟩] 31)) := ((Below.refl _ _).alloc (Nat.le_refl _) (.cells #[.int .i64 3, .int .i64 1, .string ⟨#[]⟩] 31))
        have hcA := HC.out _ (hb0.alloc hsr (.cells #[.int .i64 3, .int .i64 0, .string ⟨#[]⟩] 31))
        have hown2 := own_below hown hbw
        have hb2 := hb0.trans (hbw.mono hsr)
        have hs2 := hb2.size
        have hcv := heap_alloc_new wr (.cells #[.int .i64 3, .int .i64 0, .string ⟨#[]⟩] 31)
        obtain ⟨t0, t1, t2, z0, z1, z2⟩ := val3 hcv
        clear hown hbw hcv hb0
        cases M with
        | true =>
          have hM' : decide (n.tmod 4 = (k : Int) % 4) = true := by simpa using hM
          have hres : ∀ (v : Value) (wz : World), wz.ownsRow w.heap.size 31 3 v (L.length + 1 + 2) (cells3 L ++ [.int .i64 3, .int .i64 1, .string ⟨#[]⟩] ++ [.int .i64 0, .int .i64 0, .string ⟨#[]⟩, .int .i64 2, .int .i64 0, .string ⟨#[120]⟩]) → wz.ownsRow w.heap.size 31 3 v (lvals n l (k + 1)).length (cells3 (lvals n l (k + 1))) := by
            intro v wz h
            have e1 : (lvals n l (k + 1)).length = L.length + 1 + 2 := by rw [HS.out]; simp
            have e2 : cells3 (lvals n l (k + 1)) = cells3 L ++ [.int .i64 3, .int .i64 1, .string ⟨#[]⟩] ++ [.int .i64 0, .int .i64 0, .string ⟨#[]⟩, .int .i64 2, .int .i64 0, .string ⟨#[120]⟩] := by rw [HS.out]; simp [cells3, bN]
            rw [e1, e2]
            exact h
          have HR := Lib.hid hres
          clear hres
          cases a9 with
          | true =>
            cases o9 with
            | true =>
              go_wp2_with (at_builtin; first | (refine wpList_appN (cs := #[.int .i64 3, .int .i64 1, .string ⟨#[]⟩]) eVal rfl rfl hown2 rfl rfl (by first | rfl | simp) rfl (by intro u hu; simp at hu; rcases hu with rfl | rfl | rfl <;> rfl) (by omega) hs2 ?_; intro v1 w9 hown9 hg1 hk1; obtain ⟨A9, c9, rfl, _⟩ := own_form hown9; have hb9 := below_grown hb2 hown2 hg1 (Nat.le_refl _) hs2; have hs9 := hb9.size; have hc9 := HC.out _ hb9) | (refine wpList_appNs (m := 2) (cs := #[.int .i64 0, .int .i64 0, .string ⟨#[]⟩, .int .i64 2, .int .i64 0, .string ⟨#[120]⟩]) eVal rfl rfl hown9 rfl rfl (by first | rfl | simp) rfl (by intro u hu; simp at hu; rcases hu with rfl | rfl | rfl | rfl | rfl | rfl <;> rfl) (by omega) hs9 ?_; intro v2 w10 hown10 hg2 hk2; obtain ⟨A10, c10, rfl, _⟩ := own_form hown10; have hb10 := below_grown hb9 hown9 hg2 (Nat.le_refl _) hs9; have hc10 := HC.out _ hb10))
              go_roundw
              case rel => exact ⟨k + 1, hi1.out, by go_num, by rw [HA.out]; rfl, by rw [HO.out]; rfl, HR.out _ _ hown10, hb10⟩
              case measure => first | (simp [intOf]; done) | exact hi2.out | (have := hi2.out; simp [intOf]; omega)
            | false =>
              go_wp2_with (at_builtin; first | (refine wpList_appN (cs := #[.int .i64 3, .int .i64 1, .string ⟨#[]⟩]) eVal rfl rfl hown2 rfl rfl (by first | rfl | simp) rfl (by intro u hu; simp at hu; rcases hu with rfl | rfl | rfl <;> rfl) (by omega) hs2 ?_; intro v1 w9 hown9 hg1 hk1; obtain ⟨A9, c9, rfl, _⟩ := own_form hown9; have hb9 := below_grown hb2 hown2 hg1 (Nat.le_refl _) hs2; have hs9 := hb9.size; have hc9 := HC.out _ hb9) | (refine wpList_appNs (m := 2) (cs := #[.int .i64 0, .int .i64 0, .string ⟨#[]⟩, .int .i64 2, .int .i64 0, .string ⟨#[120]⟩]) eVal rfl rfl hown9 rfl rfl (by first | rfl | simp) rfl (by intro u hu; simp at hu; rcases hu with rfl | rfl | rfl | rfl | rfl | rfl <;> rfl) (by omega) hs9 ?_; intro v2 w10 hown10 hg2 hk2; obtain ⟨A10, c10, rfl, _⟩ := own_form hown10; have hb10 := below_grown hb9 hown9 hg2 (Nat.le_refl _) hs9; have hc10 := HC.out _ hb10))
              go_roundw
              case rel => exact ⟨k + 1, hi1.out, by go_num, by rw [HA.out]; rfl, by rw [HO.out]; rfl, HR.out _ _ hown10, hb10⟩
              case measure => first | (simp [intOf]; done) | exact hi2.out | (have := hi2.out; simp [intOf]; omega)
          | false =>
            cases o9 with
            | true =>
              go_wp2_with (at_builtin; first | (refine wpList_appN (cs := #[.int .i64 3, .int .i64 1, .string ⟨#[]⟩]) eVal rfl rfl hown2 rfl rfl (by first | rfl | simp) rfl (by intro u hu; simp at hu; rcases hu with rfl | rfl | rfl <;> rfl) (by omega) hs2 ?_; intro v1 w9 hown9 hg1 hk1; obtain ⟨A9, c9, rfl, _⟩ := own_form hown9; have hb9 := below_grown hb2 hown2 hg1 (Nat.le_refl _) hs2; have hs9 := hb9.size; have hc9 := HC.out _ hb9) | (refine wpList_appNs (m := 2) (cs := #[.int .i64 0, .int .i64 0, .string ⟨#[]⟩, .int .i64 2, .int .i64 0, .string ⟨#[120]⟩]) eVal rfl rfl hown9 rfl rfl (by first | rfl | simp) rfl (by intro u hu; simp at hu; rcases hu with rfl | rfl | rfl | rfl | rfl | rfl <;> rfl) (by omega) hs9 ?_; intro v2 w10 hown10 hg2 hk2; obtain ⟨A10, c10, rfl, _⟩ := own_form hown10; have hb10 := below_grown hb9 hown9 hg2 (Nat.le_refl _) hs9; have hc10 := HC.out _ hb10))
              go_roundw
              case rel => exact ⟨k + 1, hi1.out, by go_num, by rw [HA.out]; rfl, by rw [HO.out]; rfl, HR.out _ _ hown10, hb10⟩
              case measure => first | (simp [intOf]; done) | exact hi2.out | (have := hi2.out; simp [intOf]; omega)
            | false =>
              go_wp2_with (at_builtin; first | (refine wpList_appN (cs := #[.int .i64 3, .int .i64 1, .string ⟨#[]⟩]) eVal rfl rfl hown2 rfl rfl (by first | rfl | simp) rfl (by intro u hu; simp at hu; rcases hu with rfl | rfl | rfl <;> rfl) (by omega) hs2 ?_; intro v1 w9 hown9 hg1 hk1; obtain ⟨A9, c9, rfl, _⟩ := own_form hown9; have hb9 := below_grown hb2 hown2 hg1 (Nat.le_refl _) hs2; have hs9 := hb9.size; have hc9 := HC.out _ hb9) | (refine wpList_appNs (m := 2) (cs := #[.int .i64 0, .int .i64 0, .string ⟨#[]⟩, .int .i64 2, .int .i64 0, .string ⟨#[120]⟩]) eVal rfl rfl hown9 rfl rfl (by first | rfl | simp) rfl (by intro u hu; simp at hu; rcases hu with rfl | rfl | rfl | rfl | rfl | rfl <;> rfl) (by omega) hs9 ?_; intro v2 w10 hown10 hg2 hk2; obtain ⟨A10, c10, rfl, _⟩ := own_form hown10; have hb10 := below_grown hb9 hown9 hg2 (Nat.le_refl _) hs9; have hc10 := HC.out _ hb10))
              go_roundw
              case rel => exact ⟨k + 1, hi1.out, by go_num, by rw [HA.out]; rfl, by rw [HO.out]; rfl, HR.out _ _ hown10, hb10⟩
              case measure => first | (simp [intOf]; done) | exact hi2.out | (have := hi2.out; simp [intOf]; omega)
        | false =>
          have hM' : decide (n.tmod 4 = (k : Int) % 4) = false := by simpa using hM
          have hres : ∀ (v : Value) (wz : World), wz.ownsRow w.heap.size 31 3 v (L.length + 1) (cells3 L ++ [.int .i64 3, .int .i64 1, .string ⟨#[]⟩]) → wz.ownsRow w.heap.size 31 3 v (lvals n l (k + 1)).length (cells3 (lvals n l (k + 1))) := by
            intro v wz h
            have e1 : (lvals n l (k + 1)).length = L.length + 1 := by rw [HS.out]; simp
            have e2 : cells3 (lvals n l (k + 1)) = cells3 L ++ [.int .i64 3, .int .i64 1, .string ⟨#[]⟩] := by rw [HS.out]; simp [cells3, bN]
            rw [e1, e2]
            exact h
          have HR := Lib.hid hres
          clear hres
          cases a9 with
          | true =>
            cases o9 with
            | true =>
              go_wp2_with (at_builtin; (refine wpList_appN (cs := #[.int .i64 3, .int .i64 1, .string ⟨#[]⟩]) eVal rfl rfl hown2 rfl rfl (by first | rfl | simp) rfl (by intro u hu; simp at hu; rcases hu with rfl | rfl | rfl <;> rfl) (by omega) hs2 ?_; intro v1 w9 hown9 hg1 hk1; obtain ⟨A9, c9, rfl, _⟩ := own_form hown9; have hb9 := below_grown hb2 hown2 hg1 (Nat.le_refl _) hs2; have hs9 := hb9.size; have hc9 := HC.out _ hb9))
              go_roundw
              case rel => exact ⟨k + 1, hi1.out, by go_num, by rw [HA.out]; rfl, by rw [HO.out]; rfl, HR.out _ _ hown9, hb9⟩
              case measure => first | (simp [intOf]; done) | exact hi2.out | (have := hi2.out; simp [intOf]; omega)
            | false =>
              go_wp2_with (at_builtin; (refine wpList_appN (cs := #[.int .i64 3, .int .i64 1, .string ⟨#[]⟩]) eVal rfl rfl hown2 rfl rfl (by first | rfl | simp) rfl (by intro u hu; simp at hu; rcases hu with rfl | rfl | rfl <;> rfl) (by omega) hs2 ?_; intro v1 w9 hown9 hg1 hk1; obtain ⟨A9, c9, rfl, _⟩ := own_form hown9; have hb9 := below_grown hb2 hown2 hg1 (Nat.le_refl _) hs2; have hs9 := hb9.size; have hc9 := HC.out _ hb9))
              go_roundw
              case rel => exact ⟨k + 1, hi1.out, by go_num, by rw [HA.out]; rfl, by rw [HO.out]; rfl, HR.out _ _ hown9, hb9⟩
              case measure => first | (simp [intOf]; done) | exact hi2.out | (have := hi2.out; simp [intOf]; omega)
          | false =>
            cases o9 with
            | true =>
              go_wp2_with (at_builtin; (refine wpList_appN (cs := #[.int .i64 3, .int .i64 1, .string ⟨#[]⟩]) eVal rfl rfl hown2 rfl rfl (by first | rfl | simp) rfl (by intro u hu; simp at hu; rcases hu with rfl | rfl | rfl <;> rfl) (by omega) hs2 ?_; intro v1 w9 hown9 hg1 hk1; obtain ⟨A9, c9, rfl, _⟩ := own_form hown9; have hb9 := below_grown hb2 hown2 hg1 (Nat.le_refl _) hs2; have hs9 := hb9.size; have hc9 := HC.out _ hb9))
              go_roundw
              case rel => exact ⟨k + 1, hi1.out, by go_num, by rw [HA.out]; rfl, by rw [HO.out]; rfl, HR.out _ _ hown9, hb9⟩
              case measure => first | (simp [intOf]; done) | exact hi2.out | (have := hi2.out; simp [intOf]; omega)
            | false =>
              go_wp2_with (at_builtin; (refine wpList_appN (cs := #[.int .i64 3, .int .i64 1, .string ⟨#[]⟩]) eVal rfl rfl hown2 rfl rfl (by first | rfl | simp) rfl (by intro u hu; simp at hu; rcases hu with rfl | rfl | rfl <;> rfl) (by omega) hs2 ?_; intro v1 w9 hown9 hg1 hk1; obtain ⟨A9, c9, rfl, _⟩ := own_form hown9; have hb9 := below_grown hb2 hown2 hg1 (Nat.le_refl _) hs2; have hs9 := hb9.size; have hc9 := HC.out _ hb9))
              go_roundw
              case rel => exact ⟨k + 1, hi1.out, by go_num, by rw [HA.out]; rfl, by rw [HO.out]; rfl, HR.out _ _ hown9, hb9⟩
              case measure => first | (simp [intOf]; done) | exact hi2.out | (have := hi2.out; simp [intOf]; omega)
      | false =>
        have hbw : Below wr.heap.size wr (wr.alloc (.cells #[.int .i64 3, .int .i64 0, .string ⟨#[]⟩] 31)) := ((Below.refl _ _).alloc (Nat.le_refl _) (.cells #[.int .i64 3, .int .i64 0, .string ⟨#[]⟩] 31))
        have hcA := HC.out _ (hb0.alloc hsr (.cells #[.int .i64 3, .int .i64 0, .string ⟨#[]⟩] 31))
        have hown2 := own_below hown hbw
        have hb2 := hb0.trans (hbw.mono hsr)
        have hs2 := hb2.size
        have hcv := heap_alloc_new wr (.cells #[.int .i64 3, .int .i64 0, .string ⟨#[]⟩] 31)
        obtain ⟨t0, t1, t2, z0, z1, z2⟩ := val3 hcv
        clear hown hbw hcv hb0
        cases M with
        | true =>
          have hM' : decide (n.tmod 4 = (k : Int) % 4) = true := by simpa using hM
          have hres : ∀ (v : Value) (wz : World), wz.ownsRow w.heap.size 31 3 v (L.length + 1 + 2) (cells3 L ++ [.int .i64 3, .int .i64 0, .string ⟨#[]⟩] ++ [.int .i64 0, .int .i64 0, .string ⟨#[]⟩, .int .i64 2, .int .i64 0, .string ⟨#[120]⟩]) → wz.ownsRow w.heap.size 31 3 v (lvals n l (k + 1)).length (cells3 (lvals n l (k + 1))) := by
            intro v wz h
            have e1 : (lvals n l (k + 1)).length = L.length + 1 + 2 := by rw [HS.out]; simp
            have e2 : cells3 (lvals n l (k + 1)) = cells3 L ++ [.int .i64 3, .int .i64 0, .string ⟨#[]⟩] ++ [.int .i64 0, .int .i64 0, .string ⟨#[]⟩, .int .i64 2, .int .i64 0, .string ⟨#[120]⟩] := by rw [HS.out]; simp [cells3, bN]
            rw [e1, e2]
            exact h
          have HR := Lib.hid hres
          clear hres
          cases a9 with
          | true =>
            cases o9 with
            | true =>
              go_wp2_with (at_builtin; first | (refine wpList_appN (cs := #[.int .i64 3, .int .i64 0, .string ⟨#[]⟩]) eVal rfl rfl hown2 rfl rfl (by first | rfl | simp) rfl (by intro u hu; simp at hu; rcases hu with rfl | rfl | rfl <;> rfl) (by omega) hs2 ?_; intro v1 w9 hown9 hg1 hk1; obtain ⟨A9, c9, rfl, _⟩ := own_form hown9; have hb9 := below_grown hb2 hown2 hg1 (Nat.le_refl _) hs2; have hs9 := hb9.size; have hc9 := HC.out _ hb9) | (refine wpList_appNs (m := 2) (cs := #[.int .i64 0, .int .i64 0, .string ⟨#[]⟩, .int .i64 2, .int .i64 0, .string ⟨#[120]⟩]) eVal rfl rfl hown9 rfl rfl (by first | rfl | simp) rfl (by intro u hu; simp at hu; rcases hu with rfl | rfl | rfl | rfl | rfl | rfl <;> rfl) (by omega) hs9 ?_; intro v2 w10 hown10 hg2 hk2; obtain ⟨A10, c10, rfl, _⟩ := own_form hown10; have hb10 := below_grown hb9 hown9 hg2 (Nat.le_refl _) hs9; have hc10 := HC.out _ hb10))
              go_roundw
              case rel => exact ⟨k + 1, hi1.out, by go_num, by rw [HA.out]; rfl, by rw [HO.out]; rfl, HR.out _ _ hown10, hb10⟩
              case measure => first | (simp [intOf]; done) | exact hi2.out | (have := hi2.out; simp [intOf]; omega)
            | false =>
              go_wp2_with (at_builtin; first | (refine wpList_appN (cs := #[.int .i64 3, .int .i64 0, .string ⟨#[]⟩]) eVal rfl rfl hown2 rfl rfl (by first | rfl | simp) rfl (by intro u hu; simp at hu; rcases hu with rfl | rfl | rfl <;> rfl) (by omega) hs2 ?_; intro v1 w9 hown9 hg1 hk1; obtain ⟨A9, c9, rfl, _⟩ := own_form hown9; have hb9 := below_grown hb2 hown2 hg1 (Nat.le_refl _) hs2; have hs9 := hb9.size; have hc9 := HC.out _ hb9) | (refine wpList_appNs (m := 2) (cs := #[.int .i64 0, .int .i64 0, .string ⟨#[]⟩, .int .i64 2, .int .i64 0, .string ⟨#[120]⟩]) eVal rfl rfl hown9 rfl rfl (by first | rfl | simp) rfl (by intro u hu; simp at hu; rcases hu with rfl | rfl | rfl | rfl | rfl | rfl <;> rfl) (by omega) hs9 ?_; intro v2 w10 hown10 hg2 hk2; obtain ⟨A10, c10, rfl, _⟩ := own_form hown10; have hb10 := below_grown hb9 hown9 hg2 (Nat.le_refl _) hs9; have hc10 := HC.out _ hb10))
              go_roundw
              case rel => exact ⟨k + 1, hi1.out, by go_num, by rw [HA.out]; rfl, by rw [HO.out]; rfl, HR.out _ _ hown10, hb10⟩
              case measure => first | (simp [intOf]; done) | exact hi2.out | (have := hi2.out; simp [intOf]; omega)
          | false =>
            cases o9 with
            | true =>
              go_wp2_with (at_builtin; first | (refine wpList_appN (cs := #[.int .i64 3, .int .i64 0, .string ⟨#[]⟩]) eVal rfl rfl hown2 rfl rfl (by first | rfl | simp) rfl (by intro u hu; simp at hu; rcases hu with rfl | rfl | rfl <;> rfl) (by omega) hs2 ?_; intro v1 w9 hown9 hg1 hk1; obtain ⟨A9, c9, rfl, _⟩ := own_form hown9; have hb9 := below_grown hb2 hown2 hg1 (Nat.le_refl _) hs2; have hs9 := hb9.size; have hc9 := HC.out _ hb9) | (refine wpList_appNs (m := 2) (cs := #[.int .i64 0, .int .i64 0, .string ⟨#[]⟩, .int .i64 2, .int .i64 0, .string ⟨#[120]⟩]) eVal rfl rfl hown9 rfl rfl (by first | rfl | simp) rfl (by intro u hu; simp at hu; rcases hu with rfl | rfl | rfl | rfl | rfl | rfl <;> rfl) (by omega) hs9 ?_; intro v2 w10 hown10 hg2 hk2; obtain ⟨A10, c10, rfl, _⟩ := own_form hown10; have hb10 := below_grown hb9 hown9 hg2 (Nat.le_refl _) hs9; have hc10 := HC.out _ hb10))
              go_roundw
              case rel => exact ⟨k + 1, hi1.out, by go_num, by rw [HA.out]; rfl, by rw [HO.out]; rfl, HR.out _ _ hown10, hb10⟩
              case measure => first | (simp [intOf]; done) | exact hi2.out | (have := hi2.out; simp [intOf]; omega)
            | false =>
              go_wp2_with (at_builtin; first | (refine wpList_appN (cs := #[.int .i64 3, .int .i64 0, .string ⟨#[]⟩]) eVal rfl rfl hown2 rfl rfl (by first | rfl | simp) rfl (by intro u hu; simp at hu; rcases hu with rfl | rfl | rfl <;> rfl) (by omega) hs2 ?_; intro v1 w9 hown9 hg1 hk1; obtain ⟨A9, c9, rfl, _⟩ := own_form hown9; have hb9 := below_grown hb2 hown2 hg1 (Nat.le_refl _) hs2; have hs9 := hb9.size; have hc9 := HC.out _ hb9) | (refine wpList_appNs (m := 2) (cs := #[.int .i64 0, .int .i64 0, .string ⟨#[]⟩, .int .i64 2, .int .i64 0, .string ⟨#[120]⟩]) eVal rfl rfl hown9 rfl rfl (by first | rfl | simp) rfl (by intro u hu; simp at hu; rcases hu with rfl | rfl | rfl | rfl | rfl | rfl <;> rfl) (by omega) hs9 ?_; intro v2 w10 hown10 hg2 hk2; obtain ⟨A10, c10, rfl, _⟩ := own_form hown10; have hb10 := below_grown hb9 hown9 hg2 (Nat.le_refl _) hs9; have hc10 := HC.out _ hb10))
              go_roundw
              case rel => exact ⟨k + 1, hi1.out, by go_num, by rw [HA.out]; rfl, by rw [HO.out]; rfl, HR.out _ _ hown10, hb10⟩
              case measure => first | (simp [intOf]; done) | exact hi2.out | (have := hi2.out; simp [intOf]; omega)
        | false =>
          have hM' : decide (n.tmod 4 = (k : Int) % 4) = false := by simpa using hM
          have hres : ∀ (v : Value) (wz : World), wz.ownsRow w.heap.size 31 3 v (L.length + 1) (cells3 L ++ [.int .i64 3, .int .i64 0, .string ⟨#[]⟩]) → wz.ownsRow w.heap.size 31 3 v (lvals n l (k + 1)).length (cells3 (lvals n l (k + 1))) := by
            intro v wz h
            have e1 : (lvals n l (k + 1)).length = L.length + 1 := by rw [HS.out]; simp
            have e2 : cells3 (lvals n l (k + 1)) = cells3 L ++ [.int .i64 3, .int .i64 0, .string ⟨#[]⟩] := by rw [HS.out]; simp [cells3, bN]
            rw [e1, e2]
            exact h
          have HR := Lib.hid hres
          clear hres
          cases a9 with
          | true =>
            cases o9 with
            | true =>
              go_wp2_with (at_builtin; (refine wpList_appN (cs := #[.int .i64 3, .int .i64 0, .string ⟨#[]⟩]) eVal rfl rfl hown2 rfl rfl (by first | rfl | simp) rfl (by intro u hu; simp at hu; rcases hu with rfl | rfl | rfl <;> rfl) (by omega) hs2 ?_; intro v1 w9 hown9 hg1 hk1; obtain ⟨A9, c9, rfl, _⟩ := own_form hown9; have hb9 := below_grown hb2 hown2 hg1 (Nat.le_refl _) hs2; have hs9 := hb9.size; have hc9 := HC.out _ hb9))
              go_roundw
              case rel => exact ⟨k + 1, hi1.out, by go_num, by rw [HA.out]; rfl, by rw [HO.out]; rfl, HR.out _ _ hown9, hb9⟩
              case measure => first | (simp [intOf]; done) | exact hi2.out | (have := hi2.out; simp [intOf]; omega)
            | false =>
              go_wp2_with (at_builtin; (refine wpList_appN (cs := #[.int .i64 3, .int .i64 0, .string ⟨#[]⟩]) eVal rfl rfl hown2 rfl rfl (by first | rfl | simp) rfl (by intro u hu; simp at hu; rcases hu with rfl | rfl | rfl <;> rfl) (by omega) hs2 ?_; intro v1 w9 hown9 hg1 hk1; obtain ⟨A9, c9, rfl, _⟩ := own_form hown9; have hb9 := below_grown hb2 hown2 hg1 (Nat.le_refl _) hs2; have hs9 := hb9.size; have hc9 := HC.out _ hb9))
              go_roundw
              case rel => exact ⟨k + 1, hi1.out, by go_num, by rw [HA.out]; rfl, by rw [HO.out]; rfl, HR.out _ _ hown9, hb9⟩
              case measure => first | (simp [intOf]; done) | exact hi2.out | (have := hi2.out; simp [intOf]; omega)
          | false =>
            cases o9 with
            | true =>
              go_wp2_with (at_builtin; (refine wpList_appN (cs := #[.int .i64 3, .int .i64 0, .string ⟨#[]⟩]) eVal rfl rfl hown2 rfl rfl (by first | rfl | simp) rfl (by intro u hu; simp at hu; rcases hu with rfl | rfl | rfl <;> rfl) (by omega) hs2 ?_; intro v1 w9 hown9 hg1 hk1; obtain ⟨A9, c9, rfl, _⟩ := own_form hown9; have hb9 := below_grown hb2 hown2 hg1 (Nat.le_refl _) hs2; have hs9 := hb9.size; have hc9 := HC.out _ hb9))
              go_roundw
              case rel => exact ⟨k + 1, hi1.out, by go_num, by rw [HA.out]; rfl, by rw [HO.out]; rfl, HR.out _ _ hown9, hb9⟩
              case measure => first | (simp [intOf]; done) | exact hi2.out | (have := hi2.out; simp [intOf]; omega)
            | false =>
              go_wp2_with (at_builtin; (refine wpList_appN (cs := #[.int .i64 3, .int .i64 0, .string ⟨#[]⟩]) eVal rfl rfl hown2 rfl rfl (by first | rfl | simp) rfl (by intro u hu; simp at hu; rcases hu with rfl | rfl | rfl <;> rfl) (by omega) hs2 ?_; intro v1 w9 hown9 hg1 hk1; obtain ⟨A9, c9, rfl, _⟩ := own_form hown9; have hb9 := below_grown hb2 hown2 hg1 (Nat.le_refl _) hs2; have hs9 := hb9.size; have hc9 := HC.out _ hb9))
              go_roundw
              case rel => exact ⟨k + 1, hi1.out, by go_num, by rw [HA.out]; rfl, by rw [HO.out]; rfl, HR.out _ _ hown9, hb9⟩
              case measure => first | (simp [intOf]; done) | exact hi2.out | (have := hi2.out; simp [intOf]; omega)
    · have hie : k = l.length := by omega
      subst hie
      have hsum := lvals_sum n l l.length
      have hqa := lvals_and n l l.length
      have hqo := lvals_or n l l.length
      have hmay := Lib.hid (lvals_may n l l.length)
      have hcnt3 := lvals_len n l l.length
      obtain ⟨vals, hv⟩ : ∃ vals, lvals n l l.length = vals := ⟨_, rfl⟩
      rw [hv] at hsum hqa hqo hmay hcnt3 hown ⊢
      have hvals := atV_of_own hown (by omega)
      obtain ⟨yy, hyy⟩ : ∃ yy, yesN vals = yy := ⟨_, rfl⟩
      obtain ⟨nn, hnn⟩ : ∃ nn, noN vals = nn := ⟨_, rfl⟩
      rw [hyy, hnn] at hsum
      rw [hnn] at hqa
      rw [hyy] at hqo
      have efl : ([⟨true, 1, B, vals, cap⟩] : List FArg).flatMap FArg.vs = vals := by simp
      rw [← efl] at hyy hnn
      have hcnt := Lib.hid (show (([⟨true, 1, B, vals, cap⟩] : List FArg).flatMap FArg.vs).length ≤ 1000000 by rw [efl]; omega)
      have hkk := Lib.hid (show ∀ a ∈ ([⟨true, 1, B, vals, cap⟩] : List FArg), ∀ v ∈ FArg.vs a, mayV v ∧ v.1 ≠ 4 ∧ (v.1 = 2 → a.rg = true) from fun a ha v hv => by
        simp only [List.mem_cons, List.not_mem_nil, or_false] at ha
        subst ha
        exact ⟨(hmay.out v hv).1, (hmay.out v hv).2, fun _ => rfl⟩)
      have hyy := Lib.hid hyy
      have hnn := Lib.hid hnn
      have hb0 := hb0
      clear efl hcnt3 hown hl hv
      by_cases hz0 : l.length = 0
      · have hsum := Lib.hid (show yy + nn = 0 by omega)
        have hL1 : ((l.length : Int) == 0) = true := by rw [beq_iff_eq]; omega
        have hL2 : decide ((l.length : Int) = 0) = true := decide_eq_true (by omega)
        clear hqa hqo hlt hbig
        go_wp2_with fail
        have hb4 := hb0.alloc hb0.size (.cells #[.bool true, .int .i64 1, .slice B vals.length cap] 27)
        have hz := heap_alloc_new wr (.cells #[.bool true, .int .i64 1, .slice B vals.length cap] 27)
        have hAA : AtA (wr.alloc (.cells #[.bool true, .int .i64 1, .slice B vals.length cap] 27)) (some ⟨wr.heap.size, 0, none⟩) [⟨true, 1, B, vals, cap⟩] :=
          atA_lit (by simp) hz rfl (fun a ha => by
            simp only [List.mem_cons, List.not_mem_nil, or_false] at ha
            subst ha
            exact hvals.below ((Below.refl _ _).alloc (Nat.le_refl _) _))
        obtain ⟨G, hG⟩ : ∃ G, wr.heap.size = G := ⟨_, rfl⟩
        rw [hG] at hAA ⊢
        clear hz hG hb0 hvals
        refine (callR _ G B vals cap hAA ⟨#[65, 78, 68]⟩ (by unfold maxLen; decide) true 21 (rule_and _) (fun v hv _ => (hmay.out v hv).2) 4 1 ⟨#[]⟩ (fun us W => run_enter Tryd.func21 (by kernel_rfl) rfl us W)
          (fun W hW => and_none W _ [⟨true, 1, B, vals, cap⟩] 1 hW hkk.out hcnt.out yy nn hyy.out hnn.out hsum.out)).mono ?_
        rintro e w3 ⟨rfl, hb5⟩
        have hA3 := hAA.below hb5
        have hb6 := hb4.trans (hb5.mono hb4.size)
        clear hAA hb4 hb5
        go_wp2_with fail
        refine (callR _ G B vals cap hA3 ⟨#[79, 82]⟩ (by unfold maxLen; decide) true 22 (rule_or _) (fun v hv _ => (hmay.out v hv).2) 4 1 ⟨#[]⟩ (fun us W => run_enter Tryd.func22 (by kernel_rfl) rfl us W)
          (fun W hW => or_none W _ [⟨true, 1, B, vals, cap⟩] 1 hW hkk.out hcnt.out yy nn hyy.out hnn.out hsum.out)).mono ?_
        rintro e w4 ⟨rfl, hb5⟩
        have hb7 := hb6.trans (hb5.mono hb6.size)
        clear hA3 hb6 hb5
        have hs7 := hb7.size
        have hb8 := (hb7.alloc hs7 (.cells #[.int .i64 4, .int .i64 1, .string ⟨#[]⟩] 31)).alloc (by simp; omega) (.cells #[.int .i64 4, .int .i64 1, .string ⟨#[]⟩] 31)
        have hv1 := (Below.heap_alloc (w4.alloc (.cells #[.int .i64 4, .int .i64 1, .string ⟨#[]⟩] 31)) (.cells #[.int .i64 4, .int .i64 1, .string ⟨#[]⟩] 31) w4.heap.size (by simp)).trans (heap_alloc_new w4 (.cells #[.int .i64 4, .int .i64 1, .string ⟨#[]⟩] 31))
        have hv2 := heap_alloc_new (w4.alloc (.cells #[.int .i64 4, .int .i64 1, .string ⟨#[]⟩] 31)) (.cells #[.int .i64 4, .int .i64 1, .string ⟨#[]⟩] 31)
        rw [World.size_alloc] at hv2
        have hs8 := hb8.size
        obtain ⟨p0, p1, p2, _⟩ := val3 hv1
        obtain ⟨q0, q1, q2, _⟩ := val3 hv2
        go_wp2_with fail
        refine (awake8 _).mono ?_
        rintro e w5 ⟨rfl, hb9⟩
        have hbz := hb8.trans (hb9.mono hs8)
        clear hb8 hb9
        go_wp2
        go_ret
        exact ⟨rfl, hbz⟩
      · have hsum := Lib.hid (show 0 < yy + nn by omega)
        have hL1 : ((l.length : Int) == 0) = false := by rw [beq_eq_false_iff_ne]; omega
        have hL2 : decide ((l.length : Int) = 0) = false := decide_eq_false (by omega)
        clear hz0 hlt hbig
        obtain ⟨a9, ha9⟩ : ∃ a9, lAnd l l.length = a9 := ⟨_, rfl⟩
        obtain ⟨o9, ho9⟩ : ∃ o9, lOr l l.length = o9 := ⟨_, rfl⟩
        rw [ha9] at hqa ⊢
        rw [ho9] at hqo ⊢
        clear ha9 ho9
        cases a9 with
        | true =>
          have hqa := Lib.hid (show bN ((nn : Int) == 0) = 1 by rw [hqa]; rfl)
          cases o9 with
          | true =>
            have hqo := Lib.hid (show bN (decide (0 < yy)) = 1 by rw [hqo]; rfl)
            go_wp2_with fail
            have hb4 := hb0.alloc hb0.size (.cells #[.bool true, .int .i64 1, .slice B vals.length cap] 27)
            have hz := heap_alloc_new wr (.cells #[.bool true, .int .i64 1, .slice B vals.length cap] 27)
            have hAA : AtA (wr.alloc (.cells #[.bool true, .int .i64 1, .slice B vals.length cap] 27)) (some ⟨wr.heap.size, 0, none⟩) [⟨true, 1, B, vals, cap⟩] :=
              atA_lit (by simp) hz rfl (fun a ha => by
                simp only [List.mem_cons, List.not_mem_nil, or_false] at ha
                subst ha
                exact hvals.below ((Below.refl _ _).alloc (Nat.le_refl _) _))
            obtain ⟨G, hG⟩ : ∃ G, wr.heap.size = G := ⟨_, rfl⟩
            rw [hG] at hAA ⊢
            clear hz hG hb0 hvals
            refine (callR _ G B vals cap hAA ⟨#[65, 78, 68]⟩ (by unfold maxLen; decide) true 21 (rule_and _) (fun v hv _ => (hmay.out v hv).2) 3 1 ⟨#[]⟩ (fun us W => run_enter Tryd.func21 (by kernel_rfl) rfl us W)
              (fun W hW => by have h := and_ok W _ [⟨true, 1, B, vals, cap⟩] 1 hW hkk.out hcnt.out yy nn hyy.out hnn.out hsum.out; rw [hqa.out] at h; exact h)).mono ?_
            rintro e w3 ⟨rfl, hb5⟩
            have hA3 := hAA.below hb5
            have hb6 := hb4.trans (hb5.mono hb4.size)
            clear hAA hb4 hb5
            go_wp2_with fail
            refine (callR _ G B vals cap hA3 ⟨#[79, 82]⟩ (by unfold maxLen; decide) true 22 (rule_or _) (fun v hv _ => (hmay.out v hv).2) 3 1 ⟨#[]⟩ (fun us W => run_enter Tryd.func22 (by kernel_rfl) rfl us W)
              (fun W hW => by have h := or_ok W _ [⟨true, 1, B, vals, cap⟩] 1 hW hkk.out hcnt.out yy nn hyy.out hnn.out hsum.out; rw [hqo.out] at h; exact h)).mono ?_
            rintro e w4 ⟨rfl, hb5⟩
            have hb7 := hb6.trans (hb5.mono hb6.size)
            clear hA3 hb6 hb5
            have hs7 := hb7.size
            have hb8 := (hb7.alloc hs7 (.cells #[.int .i64 3, .int .i64 1, .string ⟨#[]⟩] 31)).alloc (by simp; omega) (.cells #[.int .i64 3, .int .i64 1, .string ⟨#[]⟩] 31)
            have hv1 := (Below.heap_alloc (w4.alloc (.cells #[.int .i64 3, .int .i64 1, .string ⟨#[]⟩] 31)) (.cells #[.int .i64 3, .int .i64 1, .string ⟨#[]⟩] 31) w4.heap.size (by simp)).trans (heap_alloc_new w4 (.cells #[.int .i64 3, .int .i64 1, .string ⟨#[]⟩] 31))
            have hv2 := heap_alloc_new (w4.alloc (.cells #[.int .i64 3, .int .i64 1, .string ⟨#[]⟩] 31)) (.cells #[.int .i64 3, .int .i64 1, .string ⟨#[]⟩] 31)
            rw [World.size_alloc] at hv2
            have hs8 := hb8.size
            obtain ⟨p0, p1, p2, _⟩ := val3 hv1
            obtain ⟨q0, q1, q2, _⟩ := val3 hv2
            go_wp2_with fail
            refine (awake8 _).mono ?_
            rintro e w5 ⟨rfl, hb9⟩
            have hbz := hb8.trans (hb9.mono hs8)
            clear hb8 hb9
            go_wp2
            go_ret
            exact ⟨rfl, hbz⟩
          | false =>
            have hqo := Lib.hid (show bN (decide (0 < yy)) = 0 by rw [hqo]; rfl)
            go_wp2_with fail
            have hb4 := hb0.alloc hb0.size (.cells #[.bool true, .int .i64 1, .slice B vals.length cap] 27)
            have hz := heap_alloc_new wr (.cells #[.bool true, .int .i64 1, .slice B vals.length cap] 27)
            have hAA : AtA (wr.alloc (.cells #[.bool true, .int .i64 1, .slice B vals.length cap] 27)) (some ⟨wr.heap.size, 0, none⟩) [⟨true, 1, B, vals, cap⟩] :=
              atA_lit (by simp) hz rfl (fun a ha => by
                simp only [List.mem_cons, List.not_mem_nil, or_false] at ha
                subst ha
                exact hvals.below ((Below.refl _ _).alloc (Nat.le_refl _) _))
            obtain ⟨G, hG⟩ : ∃ G, wr.heap.size = G := ⟨_, rfl⟩
            rw [hG] at hAA ⊢
            clear hz hG hb0 hvals
            refine (callR _ G B vals cap hAA ⟨#[65, 78, 68]⟩ (by unfold maxLen; decide) true 21 (rule_and _) (fun v hv _ => (hmay.out v hv).2) 3 1 ⟨#[]⟩ (fun us W => run_enter Tryd.func21 (by kernel_rfl) rfl us W)
              (fun W hW => by have h := and_ok W _ [⟨true, 1, B, vals, cap⟩] 1 hW hkk.out hcnt.out yy nn hyy.out hnn.out hsum.out; rw [hqa.out] at h; exact h)).mono ?_
            rintro e w3 ⟨rfl, hb5⟩
            have hA3 := hAA.below hb5
            have hb6 := hb4.trans (hb5.mono hb4.size)
            clear hAA hb4 hb5
            go_wp2_with fail
            refine (callR _ G B vals cap hA3 ⟨#[79, 82]⟩ (by unfold maxLen; decide) true 22 (rule_or _) (fun v hv _ => (hmay.out v hv).2) 3 0 ⟨#[]⟩ (fun us W => run_enter Tryd.func22 (by kernel_rfl) rfl us W)
              (fun W hW => by have h := or_ok W _ [⟨true, 1, B, vals, cap⟩] 1 hW hkk.out hcnt.out yy nn hyy.out hnn.out hsum.out; rw [hqo.out] at h; exact h)).mono ?_
            rintro e w4 ⟨rfl, hb5⟩
            have hb7 := hb6.trans (hb5.mono hb6.size)
            clear hA3 hb6 hb5
            have hs7 := hb7.size
            have hb8 := (hb7.alloc hs7 (.cells #[.int .i64 3, .int .i64 1, .string ⟨#[]⟩] 31)).alloc (by simp; omega) (.cells #[.int .i64 3, .int .i64 0, .string ⟨#[]⟩] 31)
            have hv1 := (Below.heap_alloc (w4.alloc (.cells #[.int .i64 3, .int .i64 1, .string ⟨#[]⟩] 31)) (.cells #[.int .i64 3, .int .i64 0, .string ⟨#[]⟩] 31) w4.heap.size (by simp)).trans (heap_alloc_new w4 (.cells #[.int .i64 3, .int .i64 1, .string ⟨#[]⟩] 31))
            have hv2 := heap_alloc_new (w4.alloc (.cells #[.int .i64 3, .int .i64 1, .string ⟨#[]⟩] 31)) (.cells #[.int .i64 3, .int .i64 0, .string ⟨#[]⟩] 31)
            rw [World.size_alloc] at hv2
            have hs8 := hb8.size
            obtain ⟨p0, p1, p2, _⟩ := val3 hv1
            obtain ⟨q0, q1, q2, _⟩ := val3 hv2
            go_wp2_with fail
            refine (awake8 _).mono ?_
            rintro e w5 ⟨rfl, hb9⟩
            have hbz := hb8.trans (hb9.mono hs8)
            clear hb8 hb9
            go_wp2
            go_ret
            exact ⟨rfl, hbz⟩
        | false =>
          have hqa := Lib.hid (show bN ((nn : Int) == 0) = 0 by rw [hqa]; rfl)
          cases o9 with
          | true =>
            have hqo := Lib.hid (show bN (decide (0 < yy)) = 1 by rw [hqo]; rfl)
            go_wp2_with fail
            have hb4 := hb0.alloc hb0.size (.cells #[.bool true, .int .i64 1, .slice B vals.length cap] 27)
            have hz := heap_alloc_new wr (.cells #[.bool true, .int .i64 1, .slice B vals.length cap] 27)
            have hAA : AtA (wr.alloc (.cells #[.bool true, .int .i64 1, .slice B vals.length cap] 27)) (some ⟨wr.heap.size, 0, none⟩) [⟨true, 1, B, vals, cap⟩] :=
              atA_lit (by simp) hz rfl (fun a ha => by
                simp only [List.mem_cons, List.not_mem_nil, or_false] at ha
                subst ha
                exact hvals.below ((Below.refl _ _).alloc (Nat.le_refl _) _))
            obtain ⟨G, hG⟩ : ∃ G, wr.heap.size = G := ⟨_, rfl⟩
            rw [hG] at hAA ⊢
            clear hz hG hb0 hvals
            refine (callR _ G B vals cap hAA ⟨#[65, 78, 68]⟩ (by unfold maxLen; decide) true 21 (rule_and _) (fun v hv _ => (hmay.out v hv).2) 3 0 ⟨#[]⟩ (fun us W => run_enter Tryd.func21 (by kernel_rfl) rfl us W)
              (fun W hW => by have h := and_ok W _ [⟨true, 1, B, vals, cap⟩] 1 hW hkk.out hcnt.out yy nn hyy.out hnn.out hsum.out; rw [hqa.out] at h; exact h)).mono ?_
            rintro e w3 ⟨rfl, hb5⟩
            have hA3 := hAA.below hb5
            have hb6 := hb4.trans (hb5.mono hb4.size)
            clear hAA hb4 hb5
            go_wp2_with fail
            refine (callR _ G B vals cap hA3 ⟨#[79, 82]⟩ (by unfold maxLen; decide) true 22 (rule_or _) (fun v hv _ => (hmay.out v hv).2) 3 1 ⟨#[]⟩ (fun us W => run_enter Tryd.func22 (by kernel_rfl) rfl us W)
              (fun W hW => by have h := or_ok W _ [⟨true, 1, B, vals, cap⟩] 1 hW hkk.out hcnt.out yy nn hyy.out hnn.out hsum.out; rw [hqo.out] at h; exact h)).mono ?_
            rintro e w4 ⟨rfl, hb5⟩
            have hb7 := hb6.trans (hb5.mono hb6.size)
            clear hA3 hb6 hb5
            have hs7 := hb7.size
            have hb8 := (hb7.alloc hs7 (.cells #[.int .i64 3, .int .i64 0, .string ⟨#[]⟩] 31)).alloc (by simp; omega) (.cells #[.int .i64 3, .int .i64 1, .string ⟨#[]⟩] 31)
            have hv1 := (Below.heap_alloc (w4.alloc (.cells #[.int .i64 3, .int .i64 0, .string ⟨#[]⟩] 31)) (.cells #[.int .i64 3, .int .i64 1, .string ⟨#[]⟩] 31) w4.heap.size (by simp)).trans (heap_alloc_new w4 (.cells #[.int .i64 3, .int .i64 0, .string ⟨#[]⟩] 31))
            have hv2 := heap_alloc_new (w4.alloc (.cells #[.int .i64 3, .int .i64 0, .string ⟨#[]⟩] 31)) (.cells #[.int .i64 3, .int .i64 1, .string ⟨#[]⟩] 31)
            rw [World.size_alloc] at hv2
            have hs8 := hb8.size
            obtain ⟨p0, p1, p2, _⟩ := val3 hv1
            obtain ⟨q0, q1, q2, _⟩ := val3 hv2
            go_wp2_with fail
            refine (awake8 _).mono ?_
            rintro e w5 ⟨rfl, hb9⟩
            have hbz := hb8.trans (hb9.mono hs8)
            clear hb8 hb9
            go_wp2
            go_ret
            exact ⟨rfl, hbz⟩
          | false =>
            have hqo := Lib.hid (show bN (decide (0 < yy)) = 0 by rw [hqo]; rfl)
            go_wp2_with fail
            have hb4 := hb0.alloc hb0.size (.cells #[.bool true, .int .i64 1, .slice B vals.length cap] 27)
            have hz := heap_alloc_new wr (.cells #[.bool true, .int .i64 1, .slice B vals.length cap] 27)
            have hAA : AtA (wr.alloc (.cells #[.bool true, .int .i64 1, .slice B vals.length cap] 27)) (some ⟨wr.heap.size, 0, none⟩) [⟨true, 1, B, vals, cap⟩] :=
              atA_lit (by simp) hz rfl (fun a ha => by
                simp only [List.mem_cons, List.not_mem_nil, or_false] at ha
                subst ha
                exact hvals.below ((Below.refl _ _).alloc (Nat.le_refl _) _))
            obtain ⟨G, hG⟩ : ∃ G, wr.heap.size = G := ⟨_, rfl⟩
            rw [hG] at hAA ⊢
            clear hz hG hb0 hvals
            refine (callR _ G B vals cap hAA ⟨#[65, 78, 68]⟩ (by unfold maxLen; decide) true 21 (rule_and _) (fun v hv _ => (hmay.out v hv).2) 3 0 ⟨#[]⟩ (fun us W => run_enter Tryd.func21 (by kernel_rfl) rfl us W)
              (fun W hW => by have h := and_ok W _ [⟨true, 1, B, vals, cap⟩] 1 hW hkk.out hcnt.out yy nn hyy.out hnn.out hsum.out; rw [hqa.out] at h; exact h)).mono ?_
            rintro e w3 ⟨rfl, hb5⟩
            have hA3 := hAA.below hb5
            have hb6 := hb4.trans (hb5.mono hb4.size)
            clear hAA hb4 hb5
            go_wp2_with fail
            refine (callR _ G B vals cap hA3 ⟨#[79, 82]⟩ (by unfold maxLen; decide) true 22 (rule_or _) (fun v hv _ => (hmay.out v hv).2) 3 0 ⟨#[]⟩ (fun us W => run_enter Tryd.func22 (by kernel_rfl) rfl us W)
              (fun W hW => by have h := or_ok W _ [⟨true, 1, B, vals, cap⟩] 1 hW hkk.out hcnt.out yy nn hyy.out hnn.out hsum.out; rw [hqo.out] at h; exact h)).mono ?_
            rintro e w4 ⟨rfl, hb5⟩
            have hb7 := hb6.trans (hb5.mono hb6.size)
            clear hA3 hb6 hb5
            have hs7 := hb7.size
            have hb8 := (hb7.alloc hs7 (.cells #[.int .i64 3, .int .i64 0, .string ⟨#[]⟩] 31)).alloc (by simp; omega) (.cells #[.int .i64 3, .int .i64 0, .string ⟨#[]⟩] 31)
            have hv1 := (Below.heap_alloc (w4.alloc (.cells #[.int .i64 3, .int .i64 0, .string ⟨#[]⟩] 31)) (.cells #[.int .i64 3, .int .i64 0, .string ⟨#[]⟩] 31) w4.heap.size (by simp)).trans (heap_alloc_new w4 (.cells #[.int .i64 3, .int .i64 0, .string ⟨#[]⟩] 31))
            have hv2 := heap_alloc_new (w4.alloc (.cells #[.int .i64 3, .int .i64 0, .string ⟨#[]⟩] 31)) (.cells #[.int .i64 3, .int .i64 0, .string ⟨#[]⟩] 31)
            rw [World.size_alloc] at hv2
            have hs8 := hb8.size
            obtain ⟨p0, p1, p2, _⟩ := val3 hv1
            obtain ⟨q0, q1, q2, _⟩ := val3 hv2
            go_wp2_with fail
            refine (awake8 _).mono ?_
            rintro e w5 ⟨rfl, hb9⟩
            have hbz := hb8.trans (hb9.mono hs8)
            clear hb8 hb9
            go_wp2
            go_ret
            exact ⟨rfl, hbz⟩
end Go.Proofs.YtcbaioagcemmnaaDoor
