/- Plain laws on maps of kept places: no program in sight. -/
import Derived.Test.YthoccmgfpjfkoaaLcsPlain
namespace Go.Proofs.Ythoccmgfpjfkoaa.Al
open Lcs

/-- where the next pair is -/
def nextOf : List Int → Int → Int
  | [], N => N
  | t :: l, N => if 0 ≤ t then t else nextOf l N
/-- how far the next pair is, told by negative numbers -/
def neg : List Int → Int → List Int
  | [], _ => []
  | t :: l, N => (if 0 ≤ t then t else -1 - nextOf l N) :: neg l N
/-- what is left between pairs, paired in order -/
def fill : List Int → Int → Int → List Int
  | [], _, _ => []
  | t :: l, N, f => if 0 ≤ t then t :: fill l N (t + 1) else if f < nextOf l N then f :: fill l N (f + 1) else -1 :: fill l N f
def setAll (m : List Int) (W : List (Nat × Nat)) : List Int := W.foldl (fun m p => m.set p.1 (p.2 : Int)) m
def mapOf (n : Nat) (W : List (Nat × Nat)) : List Int := setAll (List.replicate n (-1)) W

theorem neg_len : ∀ (l : List Int) (N : Int), (neg l N).length = l.length
  | [], _ => rfl
  | _ :: l, N => by simp [neg, neg_len l N]
theorem fill_len : ∀ (l : List Int) (N f : Int), (fill l N f).length = l.length
  | [], _, _ => rfl
  | t :: l, N, f => by
    unfold fill
    split
    · simp [fill_len]
    · split <;> simp [fill_len]
theorem setAll_len : ∀ (W : List (Nat × Nat)) (m : List Int), (setAll m W).length = m.length
  | [], _ => rfl
  | p :: W, m => by
    show (setAll (m.set p.1 (p.2 : Int)) W).length = _
    rw [setAll_len W, List.length_set]
theorem mapOf_len (n : Nat) (W : List (Nat × Nat)) : (mapOf n W).length = n := by unfold mapOf; rw [setAll_len, List.length_replicate]

/-- all entries are -1 or places below B -/
def Fit (B : Int) (l : List Int) : Prop := ∀ t ∈ l, -1 ≤ t ∧ t < B
theorem Fit.drop {B : Int} {l : List Int} (h : Fit B l) (i : Nat) : Fit B (l.drop i) := fun t ht => h t (List.mem_of_mem_drop ht)
theorem nextOf_fit {B : Int} : ∀ {l : List Int} {N : Int}, Fit B l → 0 ≤ N → N ≤ B → 0 ≤ nextOf l N ∧ nextOf l N ≤ B
  | [], N, _, h0, hN => ⟨h0, hN⟩
  | t :: l, N, h, h0, hN => by
    unfold nextOf
    split
    · have := h t (by simp); omega
    · exact nextOf_fit (l := l) (fun u hu => h u (by simp [hu])) h0 hN
theorem setAll_fit {B : Int} : ∀ (W : List (Nat × Nat)) (m : List Int), Fit B m → (∀ p ∈ W, (p.2 : Int) < B) → Fit B (setAll m W)
  | [], _, h, _ => h
  | p :: W, m, h, hW => by
    refine setAll_fit W (m.set p.1 (p.2 : Int)) (fun t ht => ?_) fun q hq => hW q (by simp [hq])
    rcases List.mem_or_eq_of_mem_set ht with ht | rfl
    · exact h t ht
    · exact ⟨by omega, hW p (by simp)⟩
theorem mapOf_fit {B : Int} (hB : 0 ≤ B) (n : Nat) (W : List (Nat × Nat)) (hW : ∀ p ∈ W, (p.2 : Int) < B) : Fit B (mapOf n W) :=
  setAll_fit W _ (fun t ht => by have := List.eq_of_mem_replicate ht; omega) hW
theorem fill_fit {B : Int} : ∀ (l : List Int) (N f : Int), Fit B l → 0 ≤ N → N ≤ B → 0 ≤ f → Fit B (fill l N f)
  | [], _, _, _, _, _, _ => fun t ht => by simp [fill] at ht
  | t :: l, N, f, h, h0, hN, hf => by
    have hl : Fit B l := fun u hu => h u (by simp [hu])
    have ht := h t (by simp)
    have hn := nextOf_fit hl h0 hN
    unfold fill
    intro u hu
    split at hu
    · rcases List.mem_cons.1 hu with rfl | hu
      · exact ht
      · exact fill_fit l N (t + 1) hl h0 hN (by omega) u hu
    · split at hu
      · rcases List.mem_cons.1 hu with rfl | hu
        · omega
        · exact fill_fit l N (f + 1) hl h0 hN (by omega) u hu
      · rcases List.mem_cons.1 hu with rfl | hu
        · omega
        · exact fill_fit l N f hl h0 hN hf u hu

/-- L is no more than what of b stands in a -/
theorem L_le_filter {α : Type} [DecidableEq α] (S : List α) : ∀ a b : List α, (∀ x ∈ a, x ∈ S) → L a b ≤ (b.filter (· ∈ S)).length := by
  refine both_ind (fun b _ => by rw [L_nil]; omega) (fun x a _ => by rw [L_nil_right]; omega) fun x y a b h1 h2 h3 h => ?_
  have ha : ∀ u ∈ a, u ∈ S := fun u hu => h u (by simp [hu])
  by_cases e : x = y
  · subst e
    have := h1 ha
    rw [L_cons_eq, List.filter_cons_of_pos (by simpa using h x (by simp)), List.length_cons]
    omega
  · have q2 := h2 ha
    have q3 := h3 h
    have : (b.filter (· ∈ S)).length ≤ ((y :: b).filter (· ∈ S)).length := by
      rw [List.filter_cons]; split <;> simp
    rw [L_cons_ne e]; omega

theorem filter_more {x : Nat} {a : List Nat} : ∀ {b : List Nat}, x ∈ b → x ∉ a → (b.filter (· ∈ a)).length < (b.filter (· ∈ x :: a)).length
  | u :: b, hx, hn => by
    have mono : (b.filter (· ∈ a)).length ≤ (b.filter (· ∈ x :: a)).length := by
      rw [← List.countP_eq_length_filter, ← List.countP_eq_length_filter]
      exact List.countP_mono_left fun u _ hu => by simp at hu ⊢; exact .inr hu
    by_cases e : u = x
    · subst e
      rw [List.filter_cons_of_neg (by simpa using hn), List.filter_cons_of_pos (by simp)]
      simp only [List.length_cons]; omega
    · have hb : x ∈ b := by rcases List.mem_cons.1 hx with h | h
                            · exact absurd h.symm e
                            · exact h
      have ih := filter_more hb hn
      rw [List.filter_cons, List.filter_cons (p := (· ∈ x :: a))]
      by_cases h : u ∈ a
      · simp [h] at ih ⊢; exact ih
      · simp [h, e] at ih ⊢; exact ih

/-- the pairs of lists without doubles, where what is in both stands in one order: by fuel -/
def M : Nat → List Nat → List Nat → Nat → Nat → List (Nat × Nat)
  | f + 1, x :: a, y :: b, i, k => if x = y then (i, k) :: M f a b (i + 1) (k + 1) else if b.contains x then M f (x :: a) b i (k + 1) else M f a (y :: b) (i + 1) k
  | _, _, _, _, _ => []

theorem M_eq : ∀ (f : Nat) (a b : List Nat) (i k : Nat), a.length + b.length ≤ f → a.Nodup → b.Nodup → (b.filter (· ∈ a)).Sublist a → M f a b i k = W a b i k
  | f, [], b, i, k, _, _, _, _ => by rw [W_nil]; cases f <;> rfl
  | f, x :: a, [], i, k, _, _, _, _ => by rw [W_nil_right]; cases f <;> rfl
  | 0, x :: a, y :: b, i, k, h, _, _, _ => by simp at h
  | f + 1, x :: a, y :: b, i, k, h, ha, hb, hs => by
    simp only [List.length_cons] at h
    have xa := (List.nodup_cons.1 ha).1
    have yb := (List.nodup_cons.1 hb).1
    have na := (List.nodup_cons.1 ha).2
    have nb := (List.nodup_cons.1 hb).2
    unfold M
    by_cases e : x = y
    · subst e
      rw [if_pos rfl, W_cons_eq]
      refine congrArg _ (M_eq f a b _ _ (by omega) na nb ?_)
      rw [List.filter_cons_of_pos (by simp)] at hs
      have q := List.cons_sublist_cons.1 hs
      rwa [show b.filter (· ∈ x :: a) = b.filter (· ∈ a) from List.filter_congr fun u hu => by
        have : u ≠ x := fun h => yb (h ▸ hu)
        simp [this]] at q
    · rw [if_neg e]
      have fl : ∀ (c : List Nat), x ∉ c → c.filter (· ∈ x :: a) = c.filter (· ∈ a) := fun c hc => List.filter_congr fun u hu => by
        have : u ≠ x := fun h => hc (h ▸ hu)
        simp [this]
      by_cases hx : x ∈ b
      · rw [if_pos (by simpa using hx)]
        have ya : y ∉ a := by
          intro ya
          rw [List.filter_cons_of_pos (by simp [ya])] at hs
          have q := (sub_cons hs).2 (Ne.symm e)
          exact xa (q.subset (List.mem_cons_of_mem _ (List.mem_filter.2 ⟨hx, by simp⟩)))
        rw [M_eq f (x :: a) b i (k + 1) (by simp only [List.length_cons]; omega) ha nb ((((List.sublist_cons_self y b).filter _).trans hs))]
        rw [W_cons_right e]
        intro hl
        have u1 := L_le_filter a a (y :: b) (fun _ h => h)
        rw [List.filter_cons_of_neg (by simpa using ya)] at u1
        have u2 := L_ge_of_sublist (x :: a) b (b.filter (· ∈ x :: a)) (((List.sublist_cons_self y b).filter _).trans hs) List.filter_sublist
        have u3 : (b.filter (· ∈ a)).length < (b.filter (· ∈ x :: a)).length := filter_more hx xa
        omega
      · rw [if_neg (by simpa using hx)]
        have hxb : x ∉ y :: b := by simp [e, hx]
        rw [fl _ hxb] at hs
        have hs' : ((y :: b).filter (· ∈ a)).Sublist a := by
          generalize hc : (y :: b).filter (· ∈ a) = c at hs
          match c with
          | [] => exact List.nil_sublist _
          | z :: c => exact (sub_cons hs).2 fun h => hxb (by rw [← h]; exact (List.mem_filter.1 (by rw [hc]; simp : z ∈ (y :: b).filter (· ∈ a))).1)
        rw [M_eq f a (y :: b) (i + 1) k (by simp only [List.length_cons]; omega) na hb hs']
        rw [W_cons_down e]
        have u1 := L_le_filter (x :: a) (x :: a) b (fun _ h => h)
        rw [fl b hx] at u1
        have u2 := L_ge_of_sublist a (y :: b) _ hs' List.filter_sublist
        have u3 : (b.filter (· ∈ a)).length ≤ ((y :: b).filter (· ∈ a)).length := by
          rw [List.filter_cons]; split <;> simp
        omega

theorem W_map {α β : Type} [DecidableEq α] [DecidableEq β] (f : α → β) : ∀ (a b : List α) (i k : Nat), (∀ x ∈ a, ∀ y ∈ b, f x = f y → x = y) → L (a.map f) (b.map f) = L a b ∧ W (a.map f) (b.map f) i k = W a b i k := by
  refine both_ind (fun b i k _ => by simp [L_nil, W_nil]) (fun x a i k _ => by simp [L_nil_right, W_nil_right]) fun x y a b h1 h2 h3 i k h => ?_
  have i1 := h1 (i + 1) (k + 1) fun u hu v hv => h u (by simp [hu]) v (by simp [hv])
  have i2 := h2 (i + 1) k fun u hu v hv => h u (by simp [hu]) v hv
  have i3 := h3 i (k + 1) fun u hu v hv => h u hu v (by simp [hv])
  simp only [List.map_cons] at i2 i3 ⊢
  by_cases e : x = y
  · subst e
    rw [L_cons_eq, L_cons_eq, W_cons_eq, W_cons_eq, i1.1, i1.2]
    exact ⟨rfl, rfl⟩
  · have e' : f x ≠ f y := fun q => e (h x (by simp) y (by simp) q)
    refine ⟨by rw [L_cons_ne e, L_cons_ne e', i2.1, i3.1], ?_⟩
    by_cases hl : L (x :: a) b ≤ L a (y :: b)
    · rw [W_cons_down e hl, W_cons_down e' (by rw [i2.1, i3.1]; exact hl), i2.2]
    · rw [W_cons_right e hl, W_cons_right e' (by rw [i2.1, i3.1]; exact hl), i3.2]
end Go.Proofs.Ythoccmgfpjfkoaa.Al
