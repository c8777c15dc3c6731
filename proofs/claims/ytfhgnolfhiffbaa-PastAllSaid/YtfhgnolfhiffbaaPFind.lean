/- Commits in memory; past.find, chequerref21.At: the place of a commit. -/
import Derived.Test.YtfhgnolfhiffbaaMem2
import Derived.Test.YtfhgnolfhiffbaaChecked
import Derived.Lib.Hide
import Derived.BigQuiet
namespace Go.Proofs.Ytfhgnolfhiffbaa
open Go.RowKit
/-- a commit, and where its parents lie -/
structure HC where
  id : ByteArray
  A : Option Addr
  ps : List ByteArray
  cap : Nat
  Z : Option Addr
  zn : Nat
  zc : Nat
  note : ByteArray
/-- a list of commits in memory, four cells each -/
def AtC (w : World) (A : Option Addr) (l : List HC) : Prop :=
  l.length ≤ 9223372036854775807 ∧ (∀ c ∈ l, At1 vStr w c.A c.ps) ∧ (0 < l.length → ∃ b o, A = some ⟨b, o, none⟩ ∧ ∀ i x, l[i]? = some x → w.cell? ⟨b, o + i * 4, none⟩ = some (.string x.id) ∧ w.cell? ⟨b, o + i * 4 + 1, none⟩ = some (.slice x.A x.ps.length x.cap) ∧ w.cell? ⟨b, o + i * 4 + 2, none⟩ = some (.slice x.Z x.zn x.zc) ∧ w.cell? ⟨b, o + i * 4 + 3, none⟩ = some (.string x.note))
theorem AtC.keep {w w' : World} {A : Option Addr} {l : List HC} (h : AtC w A l) (hk : ∀ p : Addr, p.block < w.heap.size → w'.cell? p = w.cell? p) : AtC w' A l := by
  refine ⟨h.1, fun a ha => (h.2.1 a ha).keep hk, fun hn => ?_⟩
  obtain ⟨b, o, e, hc⟩ := h.2.2 hn
  refine ⟨b, o, e, fun i x hx => ?_⟩
  obtain ⟨h0, h1, h2, h3⟩ := hc i x hx
  exact ⟨(hk _ (World.block_lt_of_cell? w _ h0)).trans h0, (hk _ (World.block_lt_of_cell? w _ h1)).trans h1, (hk _ (World.block_lt_of_cell? w _ h2)).trans h2, (hk _ (World.block_lt_of_cell? w _ h3)).trans h3⟩
theorem AtC.below {w w' : World} {A : Option Addr} {l : List HC} (h : AtC w A l) (hb : Below w.heap.size w w') : AtC w' A l := h.keep fun _ hp => hb.cell hp
def idsOf (l : List HC) : List ByteArray := l.map HC.id
theorem idsOf_len (l : List HC) : (idsOf l).length = l.length := by simp [idsOf]
/-- the first place of a text -/
def posN (l : List ByteArray) (x : ByteArray) : Nat := l.findIdx (fun y => decide (y = x))
def posI (l : List ByteArray) (x : ByteArray) : Int := if posN l x < l.length then (posN l x : Int) else -1
theorem posN_le (l : List ByteArray) (x : ByteArray) : posN l x ≤ l.length := List.findIdx_le_length
theorem posN_here {l : List ByteArray} {x : ByteArray} {i : Nat} (hi : i ≤ posN l x) (h : l[i]? = some x) : posN l x = i := by
  obtain ⟨hl, e⟩ := List.getElem?_eq_some_iff.1 h
  rcases Nat.lt_or_ge i (posN l x) with h1 | h1
  · have := List.not_of_lt_findIdx h1
    simp [e] at this
  · omega
theorem posN_next {l : List ByteArray} {x y : ByteArray} {i : Nat} (hi : i ≤ posN l x) (h : l[i]? = some y) (hne : y ≠ x) : i + 1 ≤ posN l x := by
  obtain ⟨hl, e⟩ := List.getElem?_eq_some_iff.1 h
  rcases Nat.lt_or_ge i (posN l x) with h1 | h1
  · omega
  · have he : posN l x = i := by omega
    have hlt : posN l x < l.length := by omega
    have := List.findIdx_getElem (w := hlt)
    simp only [decide_eq_true_eq] at this
    exfalso
    apply hne
    rw [← e, ← this]
    congr 1
    exact he.symm
theorem posI_here {l : List ByteArray} {x : ByteArray} {i : Nat} (hi : i ≤ posN l x) (h : l[i]? = some x) : posI l x = i := by
  have e := posN_here hi h
  have hl := (List.getElem?_eq_some_iff.1 h).1
  unfold posI
  rw [e, if_pos hl]
theorem posI_end {l : List ByteArray} {x : ByteArray} (hi : l.length ≤ posN l x) : posI l x = -1 := by
  unfold posI
  rw [if_neg (by omega)]
set_option maxRecDepth 100000 in
set_option maxHeartbeats 1000000 in
theorem at_any (w : World) (A : Option Addr) (l : List HC) (c : Nat) (h : AtC w A l) (x : ByteArray) :
    Calls Try.prog 11 #[.slice A l.length c, .string x] w fun e w' => e = .returned (.int .i64 (posI (idsOf l) x)) ∧ w' = w := by
  have hl := h.1
  have HP := Lib.hid (posN_le (idsOf l) x)
  go_enter Try.func11, Try.ntmps11
  go_wp2_with fail
  go_loopw [5] (fun u wr => ∃ k : Nat, k ≤ l.length ∧ u = .int .i64 k ∧ Hid (k ≤ posN (idsOf l) x) ∧ wr = w) (fun u _ => l.length - (intOf u).toNat)
  case atStart => exact ⟨0, Nat.zero_le _, rfl, Nat.zero_le _, rfl⟩
  case round =>
    obtain ⟨k, hk, rfl, hp, rfl⟩ := hrel
    by_cases hlt : k < l.length
    · obtain ⟨b, o, hAe, hc⟩ := h.2.2 (by omega)
      obtain ⟨y, hy⟩ : ∃ y, l[k]? = some y := ⟨_, List.getElem?_eq_getElem hlt⟩
      obtain ⟨c0, c1, _, _⟩ := hc k y hy
      have hyi : (idsOf l)[k]? = some y.id := by unfold idsOf; rw [List.getElem?_map, hy]; rfl
      subst hAe
      clear hc
      by_cases he : y.id = x
      · have HR := Lib.hid (posI_here hp.out (he ▸ hyi))
        have hs := str_eq_true he
        clear hp hyi hy
        go_wp2
        go_ret
        exact ⟨by rw [HR.out]; rfl, rfl⟩
      · have HN := Lib.hid (posN_next hp.out hyi he)
        have hs := str_eq_false he
        clear hp hyi hy he
        go_wp2
        go_roundw
        case rel => exact ⟨k + 1, by omega, by go_num, HN.out, by first | rfl | trivial⟩
        case measure => first | (simp [intOf]; done) | (simp [intOf]; omega)
    · have HR := Lib.hid (posI_end (l := idsOf l) (x := x) (by rw [idsOf_len]; have := hp.out; omega))
      clear hp
      go_wp2
      go_ret
      exact ⟨by rw [HR.out]; rfl, rfl⟩
set_option maxRecDepth 100000 in
set_option maxHeartbeats 1000000 in
theorem find1_any (w : World) (X : Nat) (y : HC) (x : ByteArray) (hX : w.heap[X]? = some (.cells #[.string x] 9 (0, 0))) :
    Calls Try.prog 30 #[.agg #[.string y.id, .slice y.A y.ps.length y.cap, .slice y.Z y.zn y.zc, .string y.note], .pointer (some ⟨X, 0, none⟩)] w fun e w' => e = .returned (.bool (decide (y.id = x))) ∧ Below w.heap.size w w' := by
  have hl := (Array.getElem?_eq_some_iff.1 hX).1
  have hb : Below w.heap.size w (w.alloc (.cells #[.string y.id, .slice y.A y.ps.length y.cap, .slice y.Z y.zn y.zc, .string y.note] 31)) := (Below.refl _ _).alloc (Nat.le_refl _) _
  have hc : (w.alloc (.cells #[.string y.id, .slice y.A y.ps.length y.cap, .slice y.Z y.zn y.zc, .string y.note] 31)).cell? ⟨X, 0, none⟩ = some (.string x) := by
    rw [hb.cell hl]
    simp [World.cell?, hX]
  by_cases he : y.id = x
  · have hs := str_eq_true he
    have hd : decide (y.id = x) = true := decide_eq_true he
    rw [hd]
    clear hX hd he
    go_enter Try.func30, Try.ntmps30
    go_wp2
    go_ret
    exact ⟨rfl, hb⟩
  · have hs := str_eq_false he
    have hd : decide (y.id = x) = false := decide_eq_false he
    rw [hd]
    clear hX hd he
    go_enter Try.func30, Try.ntmps30
    go_wp2
    go_ret
    exact ⟨rfl, hb⟩
set_option maxRecDepth 100000 in
set_option maxHeartbeats 1000000 in
theorem indexFunc_any (w : World) (A : Option Addr) (l : List HC) (c X : Nat) (h : AtC w A l) (x : ByteArray) (hX : w.heap[X]? = some (.cells #[.string x] 9 (0, 0))) :
    Calls Try.prog 29 #[.slice A l.length c, .func (.func 30) #[] #[.pointer (some ⟨X, 0, none⟩)]] w fun e w' => e = .returned (.int .i64 (posI (idsOf l) x)) ∧ Below w.heap.size w w' := by
  have hl := h.1
  have hXl := (Array.getElem?_eq_some_iff.1 hX).1
  go_enter Try.func29, Try.ntmps29
  go_wp2_with fail
  go_loopw [8] (fun u wr => ∃ k : Nat, k ≤ l.length ∧ u = .int .i64 k ∧ Hid (k ≤ posN (idsOf l) x) ∧ Below w.heap.size w wr) (fun u _ => l.length - (intOf u).toNat)
  case atStart => exact ⟨0, Nat.zero_le _, rfl, Nat.zero_le _, Below.refl _ _⟩
  case round =>
    obtain ⟨k, hk, rfl, hp, hb⟩ := hrel
    have hXr := (hb.block _ hXl).trans hX
    by_cases hlt : k < l.length
    · obtain ⟨b, o, hAe, hc⟩ := (h.below hb).2.2 (by omega)
      obtain ⟨y, hy⟩ : ∃ y, l[k]? = some y := ⟨_, List.getElem?_eq_getElem hlt⟩
      obtain ⟨c0, c1, c2, c3⟩ := hc k y hy
      have hyi : (idsOf l)[k]? = some y.id := by unfold idsOf; rw [List.getElem?_map, hy]; rfl
      subst hAe
      clear hc
      go_wp2_with fail
      refine (find1_any _ X y x hXr).mono ?_
      rintro e w1 ⟨rfl, hb1⟩
      have hb2 := hb.trans (hb1.mono hb.size)
      clear hb1 c0 c1 c2 c3 hXr
      by_cases he : y.id = x
      · have HR := Lib.hid (posI_here hp.out (he ▸ hyi))
        have hd : decide (y.id = x) = true := decide_eq_true he
        clear hp hyi hy he
        go_wp2
        go_ret
        exact ⟨by rw [HR.out]; rfl, hb2⟩
      · have HN := Lib.hid (posN_next hp.out hyi he)
        have hd : decide (y.id = x) = false := decide_eq_false he
        clear hp hyi hy he
        go_wp2
        go_roundw
        case rel => exact ⟨k + 1, by omega, by go_num, HN.out, hb2⟩
        case measure => first | (simp [intOf]; done) | (simp [intOf]; omega)
    · have HR := Lib.hid (posI_end (l := idsOf l) (x := x) (by rw [idsOf_len]; have := hp.out; omega))
      clear hp
      go_wp2
      go_ret
      exact ⟨by rw [HR.out]; rfl, hb⟩
set_option maxRecDepth 100000 in
theorem find_any (w : World) (A : Option Addr) (l : List HC) (c : Nat) (h : AtC w A l) (x : ByteArray) :
    Calls Try.prog 18 #[.slice A l.length c, .string x] w fun e w' => e = .returned (.int .i64 (posI (idsOf l) x)) ∧ Below w.heap.size w w' := by
  have hb : Below w.heap.size w (w.alloc (.cells #[.string x] 9)) := (Below.refl _ _).alloc (Nat.le_refl _) _
  have hX := heap_alloc_new w (.cells #[.string x] 9)
  have h1 := h.below hb
  go_enter Try.func18, Try.ntmps18
  go_wp2_with fail
  refine (indexFunc_any _ A l c _ h1 x hX).mono ?_
  rintro e w1 ⟨rfl, hb1⟩
  have hb2 := hb.trans (hb1.mono hb.size)
  go_wp2
  go_ret
  exact ⟨rfl, hb2⟩
end Go.Proofs.Ytfhgnolfhiffbaa
