/- What FunNothing's functions make of numbers is what they make of them with nothing put among them; a call of an unknown name. -/
import Derived.Test.YtcbaioagcemmnaaDoorFunSArgs
import Derived.Test.YtcbaioagcemmnaaDoorFunConcat
import Derived.Test.YtcbaioagcemmnaaDoorFunMore
namespace Go.Proofs.YtcbaioagcemmnaaDoor
open Go.RowKit Go.Maps
/-- the numbers, and nothing put in at k -/
def wl (l : List Int) (k : Nat) : List V3 := ivals (l.take k) ++ [(0, 0, noB)] ++ ivals (l.drop k)
theorem ivals_app (l : List Int) (k : Nat) : ivals (l.take k) ++ ivals (l.drop k) = ivals l := by rw [← ivals_take, ← ivals_drop, List.take_append_drop]
theorem wl_len {l : List Int} {k : Nat} (h : k ≤ l.length) : (wl l k).length = k + 1 + (l.length - k) := by
  simp [wl, ivals_len]
  omega
theorem wl_ints (l : List Int) (k : Nat) : (wl l k).filter (fun v => v.1 == 1) = ivals l := by
  unfold wl
  rw [List.filter_append, List.filter_append, filter_ivals, filter_ivals, ← ivals_app l k]
  simp
theorem wl_mem {l : List Int} {k : Nat} {v : V3} (h : v ∈ wl l k) : v ∈ ivals l ∨ v = (0, 0, noB) := by
  unfold wl at h
  rcases List.mem_append.1 h with h | h
  · rcases List.mem_append.1 h with h | h
    · exact .inl (by rw [← ivals_app l k]; exact List.mem_append.2 (.inl h))
    · exact .inr (by simpa using h)
  · exact .inl (by rw [← ivals_app l k]; exact List.mem_append.2 (.inr h))
theorem wl_yes (l : List Int) (k : Nat) : yesN (wl l k) = yesN (ivals l) := by
  unfold wl
  rw [yesN_app, yesN_app, ← ivals_app l k, yesN_app]
  rfl
theorem wl_no (l : List Int) (k : Nat) : noN (wl l k) = noN (ivals l) := by
  unfold wl
  rw [noN_app, noN_app, ← ivals_app l k, noN_app]
  rfl
theorem wl_texts (l : List Int) (k : Nat) : ctexts (wl l k) = ctexts (ivals l) := by
  unfold wl
  rw [ctexts_app, ctexts_app, ← ivals_app l k, ctexts_app]
  have : ctexts [((0 : Int), (0 : Int), noB)] = [] := by rw [ctexts_one]; rfl
  rw [this, List.append_nil]
/-- Call at one range -/
theorem callG (w : World) (G : Nat) (B : Option Addr) (vs : List V3) (cap : Nat) (hA : AtA w (some ⟨G, 0, none⟩) [⟨true, 1, B, vs, cap⟩]) (name : ByteArray) (hn : name.size ≤ maxLen) (td : Bool) (g : Nat)
    (hr : (ruleTab (some ⟨G, 0, none⟩) 1 1).atKey (.string name.data.toList) .nil = .held (.agg #[.int .i64 1, .int .i64 9223372036854775807, .bool true, .bool td, .func (.func g) #[.agg #[.slice (some ⟨G, 0, none⟩) 1 1]] #[]]))
    (he : ∀ v ∈ vs, td = true → v.1 ≠ 4) (rk rn : Int) (rs : ByteArray) (hg : ∀ us W, (callFunc g us).run Tryd.prog W = .ok (.enter g us) W)
    (hc : ∀ W, Below w.heap.size w W → AtA W (some ⟨G, 0, none⟩) [⟨true, 1, B, vs, cap⟩] → Calls Tryd.prog g #[.agg #[.slice (some ⟨G, 0, none⟩) 1 1]] W fun e W' => e = .returned (.agg #[.int .i64 rk, .int .i64 rn, .string rs]) ∧ Below W.heap.size W W') :
    Calls Tryd.prog 12 #[.string name, .slice (some ⟨G, 0, none⟩) 1 1] w fun e w' => e = .returned (.agg #[.int .i64 rk, .int .i64 rn, .string rs]) ∧ Below w.heap.size w w' :=
  call_any w (some ⟨G, 0, none⟩) [⟨true, 1, B, vs, cap⟩] 1 name hn 1 9223372036854775807 true td g hr hA (by simp) (by simp)
    (fun a ha => by simp only [List.mem_cons, List.not_mem_nil, or_false] at ha; subst ha; exact ⟨fun _ => rfl, fun h => by cases h⟩)
    (fun a ha v hv ht => by simp only [List.mem_cons, List.not_mem_nil, or_false] at ha; subst ha; exact he v hv ht) rk rn rs hg (fun W hW => hc W hW (hA.below hW))
/-- nothing put in changes nothing -/
def Good (f : ByteArray) (l : List Int) (k : Nat) : Prop := ∃ rk rn rs, ∀ vs : List V3, (vs = ivals l ∨ vs = wl l k) → ∀ (W : World) (G : Nat) (B : Option Addr) (c : Nat), Tab W → AtA W (some ⟨G, 0, none⟩) [⟨true, 1, B, vs, c⟩] →
  Calls Tryd.prog 12 #[.string f, .slice (some ⟨G, 0, none⟩) 1 1] W fun e w' => e = .returned (.agg #[.int .i64 rk, .int .i64 rn, .string rs]) ∧ Below W.heap.size W w'
section
variable {l : List Int} {k : Nat} {vs : List V3}
theorem of_ints (h : vs = ivals l ∨ vs = wl l k) (B : Option Addr) (c : Nat) : intsOf [⟨true, 1, B, vs, c⟩] = ivals l := by
  unfold intsOf
  simp only [List.flatMap_cons, List.flatMap_nil, List.append_nil]
  rcases h with rfl | rfl
  · exact filter_ivals l
  · exact wl_ints l k
theorem of_kinds (h : vs = ivals l ∨ vs = wl l k) : ∀ v ∈ vs, v ∈ ivals l ∨ v = (0, 0, noB) := by
  intro v hv
  rcases h with rfl | rfl
  · exact .inl hv
  · exact wl_mem hv
theorem of_not4 (h : vs = ivals l ∨ vs = wl l k) : ∀ v ∈ vs, v.1 ≠ 4 := by
  intro v hv
  rcases of_kinds h v hv with h | rfl
  · rw [ivals_one v h]; decide
  · decide
theorem of_kind01 (h : vs = ivals l ∨ vs = wl l k) : ∀ v ∈ vs, v.1 = 1 ∨ v.1 = 0 := by
  intro v hv
  rcases of_kinds h v hv with h | rfl
  · exact .inl (ivals_one v h)
  · exact .inr rfl
theorem of_may (h : vs = ivals l ∨ vs = wl l k) : ∀ v ∈ vs, mayV v := by
  intro v hv
  rcases of_kinds h v hv with h | rfl
  · obtain ⟨x, _, rfl⟩ := List.mem_map.1 h
    exact .inr (.inl ⟨rfl, rfl⟩)
  · exact .inl ⟨rfl, rfl, rfl⟩
theorem of_len (hk : k ≤ l.length) (hl : l.length ≤ 1000) (h : vs = ivals l ∨ vs = wl l k) : vs.length ≤ 1001 := by
  rcases h with rfl | rfl
  · rw [ivals_len]; omega
  · rw [wl_len hk]; omega
theorem one_mem {B : Option Addr} {c : Nat} {p : FArg → Prop} (h : p ⟨true, 1, B, vs, c⟩) : ∀ a ∈ [(⟨true, 1, B, vs, c⟩ : FArg)], p a := by
  intro a ha
  simp only [List.mem_cons, List.not_mem_nil, or_false] at ha
  subst ha
  exact h
theorem one_flat (B : Option Addr) (c : Nat) : [(⟨true, 1, B, vs, c⟩ : FArg)].flatMap FArg.vs = vs := by simp
theorem good_sum (hk : k ≤ l.length) (hl : l.length ≤ 1000) (hw : ∀ n ∈ l, InR n) (hs : ∀ k, InR (psum (ivals l) k)) : Good ⟨#[83, 85, 77]⟩ l k :=
  ⟨1, psum (ivals l) l.length, ⟨#[]⟩, fun vs h W G B c _ hA => callG W G B vs c hA _ (by unfold maxLen; decide) true _ (rule_sum _ 1 1) (fun v hv _ => of_not4 h v hv) _ _ _ (fun us W => run_enter Tryd.func17 (by kernel_rfl) rfl us W) (fun W _ hA => by
    have := sum_any W _ _ 1 hA (one_mem (fun v hv => (of_kind01 h v hv).imp id .inl)) (by rw [one_flat]; have := of_len hk hl h; omega)
      (by rw [of_ints h]; intro v hv; obtain ⟨x, hx, rfl⟩ := List.mem_map.1 hv; exact hw x hx) (by rw [of_ints h]; exact hs)
    rw [of_ints h, ivals_len] at this
    exact this)⟩
theorem good_count (hk : k ≤ l.length) (hl : l.length ≤ 1000) : Good ⟨#[67, 79, 85, 78, 84]⟩ l k :=
  ⟨1, l.length, ⟨#[]⟩, fun vs h W G B c _ hA => callG W G B vs c hA _ (by unfold maxLen; decide) false _ (rule_count _ 1 1) (fun v hv _ => of_not4 h v hv) _ _ _ (fun us W => run_enter Tryd.func20 (by kernel_rfl) rfl us W) (fun W _ hA => by
    have := count_any W _ _ 1 hA (by rw [one_flat]; have := of_len hk hl h; omega)
    rw [of_ints h, ivals_len] at this
    exact this)⟩
theorem good_min (hk : k ≤ l.length) (hl : l.length ≤ 1000) : Good ⟨#[77, 73, 78]⟩ l k :=
  ⟨1, (best (fun x y => decide (x < y)) (ivals l) l.length).2.1, (best (fun x y => decide (x < y)) (ivals l) l.length).2.2, fun vs h W G B c _ hA => callG W G B vs c hA _ (by unfold maxLen; decide) true _ (rule_min _ 1 1) (fun v hv _ => of_not4 h v hv) _ _ _ (fun us W => run_enter Tryd.func18 (by kernel_rfl) rfl us W) (fun W _ hA => by
    have := min_any W _ _ 1 hA (one_mem (fun v hv => (of_kind01 h v hv).imp id .inl)) (by rw [one_flat]; have := of_len hk hl h; omega)
    rw [of_ints h, ivals_len] at this
    exact this)⟩
theorem good_max (hk : k ≤ l.length) (hl : l.length ≤ 1000) : Good ⟨#[77, 65, 88]⟩ l k :=
  ⟨1, (best (fun x y => decide (x > y)) (ivals l) l.length).2.1, (best (fun x y => decide (x > y)) (ivals l) l.length).2.2, fun vs h W G B c _ hA => callG W G B vs c hA _ (by unfold maxLen; decide) true _ (rule_max _ 1 1) (fun v hv _ => of_not4 h v hv) _ _ _ (fun us W => run_enter Tryd.func19 (by kernel_rfl) rfl us W) (fun W _ hA => by
    have := max_any W _ _ 1 hA (one_mem (fun v hv => (of_kind01 h v hv).imp id .inl)) (by rw [one_flat]; have := of_len hk hl h; omega)
    rw [of_ints h, ivals_len] at this
    exact this)⟩
theorem rule_and_ (A : Option Addr) : (ruleTab A 1 1).atKey (.string (⟨#[65, 78, 68]⟩ : ByteArray).data.toList) .nil = .held (.agg #[.int .i64 1, .int .i64 9223372036854775807, .bool true, .bool true, .func (.func 21) #[.agg #[.slice A 1 1]] #[]]) := by kernel_rfl
theorem rule_or_ (A : Option Addr) : (ruleTab A 1 1).atKey (.string (⟨#[79, 82]⟩ : ByteArray).data.toList) .nil = .held (.agg #[.int .i64 1, .int .i64 9223372036854775807, .bool true, .bool true, .func (.func 22) #[.agg #[.slice A 1 1]] #[]]) := by kernel_rfl
theorem rule_concat (A : Option Addr) : (ruleTab A 1 1).atKey (.string (⟨#[67, 79, 78, 67, 65, 84]⟩ : ByteArray).data.toList) .nil = .held (.agg #[.int .i64 1, .int .i64 9223372036854775807, .bool true, .bool true, .func (.func 31) #[.agg #[.slice A 1 1]] #[]]) := by kernel_rfl
theorem of_yes (h : vs = ivals l ∨ vs = wl l k) : yesN vs = yesN (ivals l) := by
  rcases h with rfl | rfl
  · rfl
  · exact wl_yes l k
theorem of_no (h : vs = ivals l ∨ vs = wl l k) : noN vs = noN (ivals l) := by
  rcases h with rfl | rfl
  · rfl
  · exact wl_no l k
theorem of_texts (h : vs = ivals l ∨ vs = wl l k) : ctexts vs = ctexts (ivals l) := by
  rcases h with rfl | rfl
  · rfl
  · exact wl_texts l k
theorem of_truths (h : vs = ivals l ∨ vs = wl l k) (B : Option Addr) (c : Nat) : ∀ a ∈ [(⟨true, 1, B, vs, c⟩ : FArg)], ∀ v ∈ FArg.vs a, mayV v ∧ v.1 ≠ 4 ∧ (v.1 = 2 → a.rg = true) :=
  one_mem (fun v hv => ⟨of_may h v hv, of_not4 h v hv, fun _ => rfl⟩)
theorem good_and (hk : k ≤ l.length) (hl : l.length ≤ 1000) : Good ⟨#[65, 78, 68]⟩ l k := by
  obtain ⟨y, hy⟩ : ∃ y, yesN (ivals l) = y := ⟨_, rfl⟩
  obtain ⟨n, hn⟩ : ∃ n, noN (ivals l) = n := ⟨_, rfl⟩
  by_cases hz : y + n = 0
  · exact ⟨4, 1, ⟨#[]⟩, fun vs h W G B c _ hA => callG W G B vs c hA _ (by unfold maxLen; decide) true _ (rule_and_ _) (fun v hv _ => of_not4 h v hv) _ _ _ (fun us W => run_enter Tryd.func21 (by kernel_rfl) rfl us W) (fun W _ hA =>
      and_none W _ [⟨true, 1, B, vs, c⟩] 1 hA (of_truths h B c) (by rw [one_flat]; have := of_len hk hl h; omega) y n (by rw [one_flat]; exact (of_yes h).trans hy) (by rw [one_flat]; exact (of_no h).trans hn) hz)⟩
  · have hp : 0 < y + n := by omega
    exact ⟨3, bN ((n : Int) == 0), ⟨#[]⟩, fun vs h W G B c _ hA => callG W G B vs c hA _ (by unfold maxLen; decide) true _ (rule_and_ _) (fun v hv _ => of_not4 h v hv) _ _ _ (fun us W => run_enter Tryd.func21 (by kernel_rfl) rfl us W) (fun W _ hA => by
      have h9 := and_ok W _ [⟨true, 1, B, vs, c⟩] 1 hA (of_truths h B c) (by rw [one_flat]; have := of_len hk hl h; omega) y n (by rw [one_flat]; exact (of_yes h).trans hy) (by rw [one_flat]; exact (of_no h).trans hn) hp
      exact h9)⟩
theorem good_or (hk : k ≤ l.length) (hl : l.length ≤ 1000) : Good ⟨#[79, 82]⟩ l k := by
  obtain ⟨y, hy⟩ : ∃ y, yesN (ivals l) = y := ⟨_, rfl⟩
  obtain ⟨n, hn⟩ : ∃ n, noN (ivals l) = n := ⟨_, rfl⟩
  by_cases hz : y + n = 0
  · exact ⟨4, 1, ⟨#[]⟩, fun vs h W G B c _ hA => callG W G B vs c hA _ (by unfold maxLen; decide) true _ (rule_or_ _) (fun v hv _ => of_not4 h v hv) _ _ _ (fun us W => run_enter Tryd.func22 (by kernel_rfl) rfl us W) (fun W _ hA =>
      or_none W _ [⟨true, 1, B, vs, c⟩] 1 hA (of_truths h B c) (by rw [one_flat]; have := of_len hk hl h; omega) y n (by rw [one_flat]; exact (of_yes h).trans hy) (by rw [one_flat]; exact (of_no h).trans hn) hz)⟩
  · have hp : 0 < y + n := by omega
    exact ⟨3, bN (decide (0 < y)), ⟨#[]⟩, fun vs h W G B c _ hA => callG W G B vs c hA _ (by unfold maxLen; decide) true _ (rule_or_ _) (fun v hv _ => of_not4 h v hv) _ _ _ (fun us W => run_enter Tryd.func22 (by kernel_rfl) rfl us W) (fun W _ hA => by
      have h9 := or_ok W _ [⟨true, 1, B, vs, c⟩] 1 hA (of_truths h B c) (by rw [one_flat]; have := of_len hk hl h; omega) y n (by rw [one_flat]; exact (of_yes h).trans hy) (by rw [one_flat]; exact (of_no h).trans hn) hp
      exact h9)⟩
theorem itoa_short {x : Int} (h : InR x) : (vtext (1, x, noB)).size ≤ 1000 := by
  have := Lib.itoa_length_le x h.1 h.2
  have e : (vtext (1, x, noB)).size = (Lib.itoa x).length := by
    simp [vtext, ByteArray.size]
  omega
theorem good_concat (hk : k ≤ l.length) (hl : l.length ≤ 1000) (hw : ∀ n ∈ l, InR n) : Good ⟨#[67, 79, 78, 67, 65, 84]⟩ l k := by
  refine ⟨(vstr ⟨(ctexts (ivals l)).toArray⟩).1, (vstr ⟨(ctexts (ivals l)).toArray⟩).2.1, (vstr ⟨(ctexts (ivals l)).toArray⟩).2.2, fun vs h W G B c hT hA => callG W G B vs c hA _ (by unfold maxLen; decide) true _ (rule_concat _) (fun v hv _ => of_not4 h v hv) _ _ _ (fun us W => run_enter Tryd.func31 (by kernel_rfl) rfl us W) (fun W hW hA => ?_)⟩
  have := concat_any W _ _ 1 hA (hT.on hW) (one_mem (fun v hv => by
    rcases of_kinds h v hv with h | rfl
    · obtain ⟨x, hx, rfl⟩ := List.mem_map.1 h
      exact ⟨hw x hx, itoa_short (hw x hx)⟩
    · exact ⟨⟨by decide, by decide⟩, by decide⟩)) (by rw [one_flat]; have := of_len hk hl h; omega)
  rw [one_flat, of_texts h] at this
  exact this
end
set_option maxRecDepth 100000 in
set_option maxHeartbeats 4000000 in
theorem call_miss (w : World) (A : Option Addr) (n c : Nat) (name : ByteArray) (hn : name.size ≤ maxLen) (hr : (ruleTab A n c).atKey (.string name.data.toList) .nil = .nil) :
    Calls Tryd.prog 12 #[.string name, .slice A n c] w fun e w' => e = .returned (.agg #[.int .i64 4, .int .i64 5, .string ⟨#[]⟩]) ∧ Below w.heap.size w w' := by
  have HO := Lib.hid (fun W => of_miss W A n c name hn hr)
  clear hr hn
  go_enter Tryd.func12, Tryd.ntmps12
  go_wp2_with fail
  refine (HO.out _).mono ?_
  rintro e w1 ⟨rfl, hb1⟩
  obtain ⟨P, hP⟩ : ∃ P, w.heap.size = P := ⟨_, rfl⟩
  have hb0 : Below P w (w1.alloc (.cells #[.int .i64 0, .int .i64 0, .bool false, .bool false, .nilFunc] 47)) := by rw [← hP]; exact ((((Below.refl _ _).alloc (Nat.le_refl _) _).alloc (by simp) _).trans (hb1.mono (by simp; omega))).alloc (by have := hb1.size; simp at this; omega) _
  have hX : (w1.alloc (.cells #[.int .i64 0, .int .i64 0, .bool false, .bool false, .nilFunc] 47)).heap[P]? = some (.cells #[.int .i64 0, .int .i64 0, .string ⟨#[]⟩] 31 (0, 0)) := by
    have h0 : ((w.alloc (.cells #[.int .i64 0, .int .i64 0, .string ⟨#[]⟩] 31)).alloc (.cells #[.slice A n c] 44)).heap[P]? = some (.cells #[.int .i64 0, .int .i64 0, .string ⟨#[]⟩] 31 (0, 0)) := by rw [← hP]; exact (Below.heap_alloc _ _ _ (by simp)).trans (heap_alloc_new _ _)
    have h1 := (hb1.block P (by rw [← hP]; simp; omega)).trans h0
    exact (Below.heap_alloc _ _ _ (Array.getElem?_eq_some_iff.1 h1).1).trans h1
  clear hb1 HO
  go_wp2_with fail
  refine (err_any _ 5).mono ?_
  rintro e wn ⟨rfl, hbn⟩
  (try rw [hP])
  have hXn := (hbn.block P (Array.getElem?_eq_some_iff.1 hX).1).trans hX
  have hbz := hb0.trans (hbn.mono (by have := hb0.size; omega))
  obtain ⟨v0, v1, v2, z0, z1, z2⟩ := val3 hXn
  clear hb0 hX hbn
  go_wp2
  have hz := val_store (x := .int .i64 4) (y := .int .i64 5) (z := .string ⟨#[]⟩) hXn
  obtain ⟨q0, q1, q2, _⟩ := val3 hz
  refine bodyPost_ret (v := .agg #[.int .i64 4, .int .i64 5, .string ⟨#[]⟩]) ?_ rfl ?_
  · simp [results, Tryd.f12, go_sem, q0, q1, q2]
  · exact ⟨rfl, hP ▸ ((hbz.setCell (p := ⟨P, 0, none⟩) (Nat.le_refl _) _).setCell (p := ⟨P, 1, none⟩) (Nat.le_refl _) _).setCell (p := ⟨P, 2, none⟩) (Nat.le_refl _) _⟩
/-- no name begins so -/
theorem name_miss (A : Option Addr) (n c : Nat) (d : List UInt8) : (ruleTab A n c).atKey (.string (78 :: 79 :: 80 :: 69 :: d)) .nil = .nil := by kernel_rfl
end Go.Proofs.YtcbaioagcemmnaaDoor
