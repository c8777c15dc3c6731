/- The walks of code.GetList and chequerref1.GetList. -/
import Derived.Test.YtfjjdmiddigkiaaCodeGetText
namespace Go.Proofs.Ytfjjdmiddigkiaa
open Go.RowKit

def mkS (s : List UInt8) : ByteArray := ⟨s.toArray⟩
def listAt (b : List UInt8) (k : Int) : Option (List (List UInt8) × Nat) := if k < 0 then none else (Code.getList (b.drop k.toNat)).map fun p => (p.1, k.toNat + p.2)
theorem listAt_neg {b : List UInt8} {k : Int} (h : k < 0) : listAt b k = none := if_pos h
theorem listAt_none {b : List UInt8} {k : Nat} (h : Code.getL (b.drop k) = none) : listAt b k = none := by
  rw [listAt, if_neg (by omega), Int.toNat_natCast, Code.getList, h]; rfl
/-- what is left to read: 'done' has been read, the next text stands at p -/
def restAt (b : List UInt8) (m p : Nat) (d : List (List UInt8)) : Option (List (List UInt8) × Nat) := (Code.getTexts m (b.drop p)).map fun r => (d ++ r.1, p + r.2)
theorem listAt_some {b : List UInt8} {k n m : Nat} (h : Code.getL (b.drop k) = some (n, m)) : listAt b k = restAt b n (k + m) [] := by
  rw [listAt, if_neg (by omega), Int.toNat_natCast, Code.getList, h, restAt]
  simp only [List.drop_drop]
  cases Code.getTexts n (b.drop (k + m)) with
  | none => rfl
  | some r => simp [Nat.add_assoc]
theorem rest_zero (b : List UInt8) (p : Nat) (d : List (List UInt8)) : restAt b 0 p d = some (d, p) := by simp [restAt, Code.getTexts]
theorem rest_few {b : List UInt8} {m p : Nat} {d : List (List UInt8)} (h : b.length - p < m) : restAt b m p d = none := by
  rw [restAt, Code.getTexts_few (by simp; omega)]; rfl
theorem rest_none {b : List UInt8} {m p : Nat} {d : List (List UInt8)} (h : textAt b p = none) : restAt b (m + 1) p d = none := by
  rw [textAt, if_neg (by omega), Int.toNat_natCast] at h
  have h' : Code.getText (b.drop p) = none := by
    cases hh : Code.getText (b.drop p) with
    | none => rfl
    | some x => rw [hh] at h; cases h
  rw [restAt, Code.getTexts, h']; rfl
theorem text_some {b : List UInt8} {p q : Nat} {s : List UInt8} (h : textAt b p = some (s, q)) : ∃ m, Code.getText (b.drop p) = some (s, m) ∧ q = p + m := by
  rw [textAt, if_neg (by omega), Int.toNat_natCast] at h
  cases hh : Code.getText (b.drop p) with
  | none => rw [hh] at h; cases h
  | some x =>
    rw [hh] at h
    injection h with h
    injection h with h1 h2
    exact ⟨x.2, by rw [← h1], h2.symm⟩
theorem rest_some {b : List UInt8} {m p q : Nat} {d : List (List UInt8)} {s : List UInt8} (h : textAt b p = some (s, q)) : restAt b (m + 1) p d = restAt b m q (d ++ [s]) := by
  obtain ⟨j, h1, rfl⟩ := text_some h
  rw [restAt, Code.getTexts, h1, restAt]
  simp only [List.drop_drop]
  cases Code.getTexts m (b.drop (p + j)) with
  | none => rfl
  | some r => simp [Nat.add_assoc]
theorem text_place {b : List UInt8} {p q : Nat} {s : List UInt8} (h : textAt b p = some (s, q)) (hp : p ≤ b.length) : p < q ∧ q ≤ b.length ∧ s.length ≤ b.length := by
  obtain ⟨j, h1, rfl⟩ := text_some h
  obtain ⟨g1, g2, _, g4⟩ := Code.getText_just h1
  simp only [List.length_drop] at g2 g4
  omega

def ListPost (w : World) (o : Option (List (List UInt8) × Nat)) (e : Ending) (w' : World) : Prop :=
  match o with
  | none => e = .returned (.tuple #[.slice none 0 0, .int .i64 0, .bool false]) ∧ Below w.heap.size w w'
  | some (l, m) => ∃ v, e = .returned (.tuple #[v, .int .i64 m, .bool true]) ∧ w'.ownsRow w.heap.size 9 1 v l.length (l.map fun s => vStr (mkS s)) ∧ Below w.heap.size w w'

theorem getText_no {w : World} {A : Option Addr} {b : List UInt8} {c : Nat} {k : Int} (hA : At1 vByte w A b) (hc : b.length ≤ c) (h : textAt b k = none) :
    Calls Try.prog 10 #[.slice A b.length c, .int .i64 k] w fun e w' => e = .returned (.tuple #[.string ⟨#[]⟩, .int .i64 0, .bool false]) ∧ w = w' := by
  have := getText_any w A b c k hA hc
  rwa [h] at this
theorem getText_yes {w : World} {A : Option Addr} {b : List UInt8} {c : Nat} {k : Int} {s : List UInt8} {m : Nat} (hA : At1 vByte w A b) (hc : b.length ≤ c) (h : textAt b k = some (s, m)) :
    Calls Try.prog 10 #[.slice A b.length c, .int .i64 k] w fun e w' => e = .returned (.tuple #[.string (mkS s), .int .i64 m, .bool true]) ∧ w = w' := by
  have := getText_any w A b c k hA hc
  rwa [h] at this
theorem rgetText_no {w : World} {A : Option Addr} {b : List UInt8} {c : Nat} {k : Int} (hA : At1 vByte w A b) (hc : b.length ≤ c) (h : textAt b k = none) :
    Calls Try.prog 11 #[.slice A b.length c, .int .i64 k] w fun e w' => e = .returned (.tuple #[.string (mkS []), .int .i64 0, .bool false]) ∧ w = w' := by
  have := rgetText_any w A b c k hA hc
  rwa [h] at this
theorem rgetText_yes {w : World} {A : Option Addr} {b : List UInt8} {c : Nat} {k : Int} {s : List UInt8} {m : Nat} (hA : At1 vByte w A b) (hc : b.length ≤ c) (h : textAt b k = some (s, m)) :
    Calls Try.prog 11 #[.slice A b.length c, .int .i64 k] w fun e w' => e = .returned (.tuple #[.string (mkS s), .int .i64 m, .bool true]) ∧ w = w' := by
  have := rgetText_any w A b c k hA hc
  rwa [h] at this
/-- one text more in the row -/
theorem texts_step {w1 : World} {base e : Nat} {v1 : Value} {d : List (List UInt8)} {s : List UInt8} (h : w1.ownsRow base e 1 v1 (d.length + 1) ((d.map fun s => vStr (mkS s)) ++ [Value.string (mkS s)])) :
    w1.ownsRow base e 1 v1 (d ++ [s]).length ((d ++ [s]).map fun s => vStr (mkS s)) := by
  simpa using h

set_option maxRecDepth 100000 in
set_option maxHeartbeats 600000 in
theorem getList_any (w : World) (A : Option Addr) (b : List UInt8) (c : Nat) (k : Int) (hA : At1 vByte w A b) (hc : b.length ≤ c) (hb1 : b.length ≤ 1000000) :
    Calls Try.prog 12 #[.slice A b.length c, .int .i64 k] w (ListPost w (listAt b k)) := by
  by_cases hk : k < 0
  · rw [listAt_neg hk]
    go_enter Try.func12, Try.ntmps12
    go_wp2_with fail
    refine (get_no hA (getAt_neg hk)).mono ?_
    rintro e w1 ⟨rfl, rfl⟩
    go_wp2
    go_ret3
    exact ⟨rfl, Below.refl _ _⟩
  · obtain ⟨k, rfl⟩ := Int.eq_ofNat_of_zero_le (show 0 ≤ k by omega)
    cases hg : Code.getL (b.drop k) with
    | none =>
      rw [listAt_none hg]
      go_enter Try.func12, Try.ntmps12
      go_wp2_with fail
      refine (get_no hA (getAt_none hg)).mono ?_
      rintro e w1 ⟨rfl, rfl⟩
      go_wp2
      go_ret3
      exact ⟨rfl, Below.refl _ _⟩
    | some p =>
      obtain ⟨n, m⟩ := p
      obtain ⟨j1, j2, _, j4⟩ := Code.getL_just hg
      simp only [List.length_drop] at j2
      have hls := listAt_some hg
      have hy := getAt_some hg
      have hq : k + m ≤ b.length := by omega
      generalize k + m = q at *
      rw [hls]
      have HY := Lib.hid hy
      clear hg j2 hls hy
      by_cases hl : b.length - q < n
      · rw [rest_few hl]
        have hgt : (b.length : Int) - (q : Int) < (n : Int) := by omega
        go_enter Try.func12, Try.ntmps12
        go_wp2_with fail
        refine (get_yes hA HY.out).mono ?_
        rintro e w1 ⟨rfl, rfl⟩
        go_wp2
        go_ret3
        exact ⟨rfl, Below.refl _ _⟩
      · go_enter Try.func12, Try.ntmps12
        go_wp2_with fail
        refine (get_yes hA HY.out).mono ?_
        rintro e w1 ⟨rfl, rfl⟩
        go_wp2
        go_loopw [4, 5, 8, 9, 10, 29] (fun v nx _ _ _ i wr => ∃ (j p : Nat) (d : List (List UInt8)), j ≤ n ∧ p ≤ b.length ∧ i = .int .i64 j ∧ nx = .int .i64 p ∧ d.length = j ∧ restAt b n q [] = restAt b (n - j) p d ∧ wr.ownsRow w.heap.size 9 1 v d.length (d.map fun s => vStr (mkS s)) ∧ Below w.heap.size w wr)
          (fun _ _ _ _ _ i _ => n - (intOf i).toNat)
        case atStart => exact ⟨0, q, [], Nat.zero_le _, hq, rfl, rfl, rfl, rfl, World.ownsRow_nil _ _ _ _, Below.refl _ _⟩
        case round =>
          obtain ⟨j, p, d, hj, hp, rfl, rfl, hd, hr, hown, hbl⟩ := hrel
          have HR := Lib.hid hr
          have HD := Lib.hid hd
          have hdl : d.length ≤ n := by omega
          have hsz := hbl.size
          clear hr hd
          by_cases hlt : j < n
          · have hA1 := hA.below hbl
            obtain ⟨f, hf⟩ : ∃ f, n - j = f + 1 := ⟨n - j - 1, by omega⟩
            have HF := Lib.hid hf
            clear hf
            cases ht : textAt b p with
            | none =>
              have hnone := HR.out
              rw [HF.out, rest_none ht] at hnone
              have HN := Lib.hid hnone
              clear hnone
              go_wp2_with fail
              refine (getText_no hA1 hc ht).mono ?_
              rintro e w2 ⟨rfl, rfl⟩
              go_wp2
              go_ret3
              rw [HN.out]
              exact ⟨rfl, hbl⟩
            | some sp =>
              obtain ⟨s, q'⟩ := sp
              obtain ⟨g1, g2, g3⟩ := text_place ht hp
              have hr2 := HR.out
              rw [HF.out, rest_some ht] at hr2
              have HR2 := Lib.hid hr2
              have HT := Lib.hid ht
              clear hr2 ht
              go_wp2_with fail
              refine (getText_yes hA1 hc HT.out).mono ?_
              rintro e w2 ⟨rfl, rfl⟩
              go_wp2_with (at_builtin; refine wpList_app1 eStr rfl rfl hown rfl rfl (by first | rfl | simp) rfl (by omega) (by first | omega | (simp; omega)) ?_; intro v1 w1 hown1 hg1 hk1)
              go_roundw
              case rel => exact ⟨j + 1, q', _, by omega, g2, by go_num, rfl, by simp [HD.out], by rw [HR2.out, show n - (j + 1) = f from by have := HF.out; omega], texts_step hown1, below_grown hbl hown hg1 (Nat.le_refl _) hsz⟩
              case measure => first | (simp [intOf]; done) | (simp [intOf]; omega)
          · have hfin := HR.out
            rw [show n - j = 0 from by omega, rest_zero] at hfin
            have HN := Lib.hid hfin
            clear hfin
            go_wp2
            go_ret3
            rw [HN.out]
            exact ⟨_, rfl, hown, hbl⟩

set_option maxRecDepth 100000 in
set_option maxHeartbeats 600000 in
theorem rgetList_any (w : World) (A : Option Addr) (b : List UInt8) (c : Nat) (k : Int) (hA : At1 vByte w A b) (hc : b.length ≤ c) (hb1 : b.length ≤ 1000000) :
    Calls Try.prog 13 #[.slice A b.length c, .int .i64 k] w (ListPost w (listAt b k)) := by
  have hno : Code.getAt b k = none → listAt b k = none → Calls Try.prog 13 #[.slice A b.length c, .int .i64 k] w (ListPost w (listAt b k)) := by
    intro h1 h2
    rw [h2]
    go_enter Try.func13, Try.ntmps13
    go_wp2_with fail
    refine (rget_no hA h1).mono ?_
    rintro e w1 ⟨rfl, rfl⟩
    go_wp2
    refine wp_loop_rounds 1 ?_
    rw [rounds_succ]
    go_wp2
    go_ret3
    exact ⟨rfl, Below.refl _ _⟩
  by_cases hk : k < 0
  · exact hno (getAt_neg hk) (listAt_neg hk)
  · obtain ⟨k, rfl⟩ := Int.eq_ofNat_of_zero_le (show 0 ≤ k by omega)
    cases hg : Code.getL (b.drop k) with
    | none => exact hno (getAt_none hg) (listAt_none hg)
    | some p =>
      obtain ⟨n, m⟩ := p
      obtain ⟨j1, j2, _, j4⟩ := Code.getL_just hg
      simp only [List.length_drop] at j2
      have hls := listAt_some hg
      have hy := getAt_some hg
      have hq : k + m ≤ b.length := by omega
      clear hno
      generalize k + m = q at *
      rw [hls]
      have HY := Lib.hid hy
      clear hg j2 hls hy
      go_enter Try.func13, Try.ntmps13
      go_wp2_with fail
      refine (rget_yes hA HY.out).mono ?_
      rintro e w1 ⟨rfl, rfl⟩
      go_wp2
      go_loopw [8, 9, 10, 11, 12, 13, 14] (fun nx ok v i _ _ _ wr => ∃ (j p : Nat) (d : List (List UInt8)) (o : Bool), j ≤ n ∧ i = .int .i64 j ∧ nx = .int .i64 p ∧ ok = .bool o ∧ d.length ≤ b.length + 1 ∧ (o = true → p ≤ b.length ∧ d.length = j ∧ d.length ≤ p ∧ restAt b n q [] = restAt b (n - j) p d) ∧ (o = false → restAt b n q [] = none) ∧ wr.ownsRow w.heap.size 9 1 v d.length (d.map fun s => vStr (mkS s)) ∧ Below w.heap.size w wr)
        (fun _ _ _ i _ _ _ _ => n - (intOf i).toNat)
      case atStart => exact ⟨0, q, [], true, Nat.zero_le _, rfl, rfl, rfl, by simp, (fun _ => ⟨hq, rfl, by simp, rfl⟩), (fun h => by cases h), World.ownsRow_nil _ _ _ _, Below.refl _ _⟩
      case round =>
        obtain ⟨j, p, d, o, hj, rfl, rfl, rfl, hdl, ht, hf, hown, hbl⟩ := hrel
        have hsz := hbl.size
        cases o with
        | false =>
          have HN := Lib.hid (hf rfl)
          clear hf ht
          by_cases hlt : j < n
          · go_wp2
            go_ret3
            rw [HN.out]
            exact ⟨rfl, hbl⟩
          · go_wp2
            go_ret3
            rw [HN.out]
            exact ⟨rfl, hbl⟩
        | true =>
          obtain ⟨hp, hd, hdp, hr⟩ := ht rfl
          have HR := Lib.hid hr
          have HD := Lib.hid hd
          clear hr hd ht hf
          by_cases hlt : j < n
          · have hA1 := hA.below hbl
            obtain ⟨f, hf⟩ : ∃ f, n - j = f + 1 := ⟨n - j - 1, by omega⟩
            have HF := Lib.hid hf
            clear hf
            cases ht : textAt b p with
            | none =>
              have hnone := HR.out
              rw [HF.out, rest_none ht] at hnone
              have HN := Lib.hid hnone
              clear hnone
              go_wp2_with fail
              refine (rgetText_no hA1 hc ht).mono ?_
              rintro e w2 ⟨rfl, rfl⟩
              go_wp2_with (at_builtin; refine wpList_app1 eStr rfl rfl hown rfl rfl (by first | rfl | simp) rfl (by omega) (by first | omega | (simp; omega)) ?_; intro v1 w1 hown1 hg1 hk1)
              go_roundw
              case rel => exact ⟨j + 1, 0, _, false, by omega, by go_num, rfl, rfl, by simp; omega, (fun h => by cases h), fun _ => HN.out, texts_step (s := []) hown1, below_grown hbl hown hg1 (Nat.le_refl _) hsz⟩
              case measure => first | (simp [intOf]; done) | (simp [intOf]; omega)
            | some sp =>
              obtain ⟨s, q'⟩ := sp
              obtain ⟨g1, g2, g3⟩ := text_place ht hp
              have hr2 := HR.out
              rw [HF.out, rest_some ht] at hr2
              have HR2 := Lib.hid hr2
              have HT := Lib.hid ht
              clear hr2 ht
              go_wp2_with fail
              refine (rgetText_yes hA1 hc HT.out).mono ?_
              rintro e w2 ⟨rfl, rfl⟩
              go_wp2_with (at_builtin; refine wpList_app1 eStr rfl rfl hown rfl rfl (by first | rfl | simp) rfl (by omega) (by first | omega | (simp; omega)) ?_; intro v1 w1 hown1 hg1 hk1)
              go_roundw
              case rel => exact ⟨j + 1, q', _, true, by omega, by go_num, rfl, rfl, by simp; omega, (fun _ => ⟨g2, by simp [HD.out], by simp; omega, by rw [HR2.out, show n - (j + 1) = f from by have := HF.out; omega]⟩), (fun h => by cases h), texts_step hown1, below_grown hbl hown hg1 (Nat.le_refl _) hsz⟩
              case measure => first | (simp [intOf]; done) | (simp [intOf]; omega)
          · have hfin := HR.out
            rw [show n - j = 0 from by omega, rest_zero] at hfin
            have HN := Lib.hid hfin
            clear hfin
            go_wp2
            go_ret3
            rw [HN.out]
            exact ⟨_, rfl, hown, hbl⟩

end Go.Proofs.Ytfjjdmiddigkiaa
