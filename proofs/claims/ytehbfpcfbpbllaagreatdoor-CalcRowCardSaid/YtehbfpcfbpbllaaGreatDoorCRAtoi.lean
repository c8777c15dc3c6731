/- strconv.Atoi, cell.number of a number's text. -/
import Derived.Test.YtehbfpcfbpbllaaGreatDoorDAtoi
import Derived.Test.YtehbfpcfbpbllaaGreatDoorCRDig
namespace Go.Proofs.YtehbfpcfbpbllaaGreatDoor
open Go.RowKit
theorem size_of {s : ByteArray} {l : List UInt8} (h : s.data.toList = l) : s.size = l.length := by
  show s.data.size = _
  rw [← Array.length_toList, h]
theorem cut1 {s : ByteArray} {b : UInt8} {l : List UInt8} (h : s.data.toList = b :: l) : (s.extract 1 s.size).data.toList = l := by
  rw [ByteArray.data_extract, Array.toList_extract]
  have := size_of h
  rw [List.length_cons] at this
  rw [h, this]
  simp
set_option maxRecDepth 100000 in
set_option maxHeartbeats 2000000 in
theorem iatoi_neg (w : World) (s : ByteArray) (l : List UInt8) (hs : s.data.toList = 45 :: l) (h0 : 0 < l.length) (h18 : l.length ≤ 17) (hd : ∀ b ∈ l, 48 ≤ b.toNat ∧ b.toNat ≤ 57) :
    Calls Tryz.prog 57 #[.string s] w fun e w' => e = .returned (.tuple #[.int .i64 (-(valD l : Int)), .nilIface]) ∧ Below w.heap.size w w' := by
  have hss : s.size = l.length + 1 := by have := size_of hs; rwa [List.length_cons] at this
  obtain ⟨t, ht⟩ : ∃ t, s.extract 1 s.size = t := ⟨_, rfl⟩
  have htl : t.data.toList = l := by rw [← ht]; exact cut1 hs
  have hts : t.size = l.length := size_of htl
  obtain ⟨c, W1, hcv, hat, hb⟩ := bytes_conv w t (by omega)
  rw [htl] at hat
  have hbt := byte_at hs
  have HD := Lib.hid hd
  have HV := Lib.hid (fun k (hk : k ≤ l.length) => show valD (l.take k) < 10 ^ 18 from by
    have h1 := valD_lt (l.take k) (fun b hb => hd b (List.mem_of_mem_take hb))
    rw [List.length_take] at h1
    have h2 : 10 ^ min k l.length ≤ 10 ^ 18 := Nat.pow_le_pow_right (by omega) (by omega)
    omega)
  have ht2 : s.extract 1 (l.length + 1) = t := by rw [← hss]; exact ht
  clear hd hs htl ht
  go_enter Tryz.func57, Tryz.ntmps57
  go_wp2_with fail
  go_loopw [6, 49] (fun n u wi => ∃ k : Nat, k ≤ l.length ∧ u = .int .i64 k ∧ n = .int .i64 (valD (l.take k)) ∧ wi = W1) (fun _ u _ => l.length - (intOf u).toNat)
  case atStart => exact ⟨0, Nat.zero_le _, rfl, rfl, rfl⟩
  case round =>
    obtain ⟨k, hk, rfl, rfl, rfl⟩ := hrel
    by_cases hlt : k < l.length
    · obtain ⟨x, hx⟩ : ∃ x, l[k]? = some x := ⟨_, List.getElem?_eq_getElem hlt⟩
      have hxd := HD.out x (List.mem_of_getElem? hx)
      obtain ⟨pa, e, hc⟩ := hat.2 (by omega)
      cases e
      have c0 := hc k x hx
      have HS := Lib.hid (show valD (l.take (k + 1)) = 10 * valD (l.take k) + (x.toNat - 48) by
        obtain ⟨z1, z2⟩ := List.getElem?_eq_some_iff.1 hx
        rw [take_snoc z1, z2, valD_snoc])
      have hv := HV.out k hk
      obtain ⟨v, hve⟩ : ∃ v, valD (l.take k) = v := ⟨_, rfl⟩
      rw [hve] at hv HS ⊢
      obtain ⟨y, hy⟩ : ∃ y : Nat, x.toNat = y + 48 := ⟨x.toNat - 48, by omega⟩
      rw [hy, show y + 48 - 48 = y by omega] at HS
      have hc0 : wr.cell? ⟨w.heap.size, k, none⟩ = some (.int .u8 ((y : Int) + 48)) := by rw [← addr0, c0]; unfold vByte; rw [hy]; push_cast; rfl
      have hy9 : y ≤ 9 := by omega
      have hv2 := HV.out (k + 1) (by omega)
      rw [HS.out] at hv2
      have hv3 : v ≤ 1000000000000000000 := by omega
      have hv4 : 10 * v + y ≤ 1000000000000000000 := by omega
      clear hv hv2
      clear hx hc c0 hve hy hxd
      go_wp2_with fail
      go_roundw
      case rel => exact ⟨k + 1, by omega, by go_num, by rw [HS.out]; go_num, by first | rfl | trivial⟩
      case measure => first | (simp [intOf]; done) | (simp [intOf]; omega)
    · have hke : k = l.length := by omega
      subst hke
      rw [List.take_length]
      have hv := HV.out l.length (Nat.le_refl _)
      rw [List.take_length] at hv
      obtain ⟨v, hve⟩ : ∃ v, valD l = v := ⟨_, rfl⟩
      rw [hve] at hv ⊢
      have hv3 : v ≤ 1000000000000000000 := by omega
      have HVE := Lib.hid hve
      clear hv hve
      go_wp2_with fail
      refine bodyPost_ret (v := .tuple #[.int .i64 (-(v : Int)), .nilIface]) (by simp [results, Tryz.f57, go_sem]) rfl ⟨by rw [HVE.out], hb⟩
set_option maxRecDepth 100000 in
theorem atoi_neg (w : World) (s : ByteArray) (l : List UInt8) (hs : s.data.toList = 45 :: l) (h0 : 0 < l.length) (h18 : l.length ≤ 17) (hd : ∀ b ∈ l, 48 ≤ b.toNat ∧ b.toNat ≤ 57) :
    Calls Tryz.prog 36 #[.string s] w fun e w' => e = .returned (.tuple #[.int .i64 (-(valD l : Int)), .nilIface]) ∧ Below w.heap.size w w' := by
  obtain ⟨v, hv⟩ : ∃ v, -(valD l : Int) = v := ⟨_, rfl⟩
  have H := Lib.hid (iatoi_neg w s l hs h0 h18 hd)
  clear hs h0 h18 hd
  go_enter Tryz.func36, Tryz.ntmps36
  go_wp2_with fail
  refine H.out.mono ?_
  rintro e w1 ⟨rfl, hb⟩
  rw [hv]
  go_wp2_with fail
  refine bodyPost_ret (v := .tuple #[.int .i64 v, .nilIface]) (by simp [results, Tryz.f36, go_sem]) rfl ⟨by rw [hv], hb⟩
/-- what a number's text is: a sign perhaps, and digits -/
theorem dec_digits (n : Nat) : ∀ b ∈ Lib.decDigits n, 48 ≤ b.toNat ∧ b.toNat ≤ 57 := by
  induction n using Nat.strongRecOn with
  | _ n ih =>
    intro b hb
    by_cases h : n < 10
    · rw [dec_one h, List.mem_singleton] at hb
      subst hb
      rw [dec_num h]; omega
    · rw [dec_big h, List.mem_append, List.mem_singleton] at hb
      rcases hb with hb | rfl
      · exact ih (n / 10) (by omega) b hb
      · rw [dec_num (by omega)]; omega
theorem dec_val (n : Nat) : valD (Lib.decDigits n) = n := by
  induction n using Nat.strongRecOn with
  | _ n ih =>
    by_cases h : n < 10
    · rw [dec_one h]
      show 10 * 0 + ((48 + UInt8.ofNat n : UInt8).toNat - 48) = n
      rw [dec_num h]; omega
    · rw [dec_big h, valD_snoc, ih (n / 10) (by omega), dec_num (by omega)]; omega
theorem dec_pos (n : Nat) : 0 < (Lib.decDigits n).length := by
  by_cases h : n < 10
  · rw [dec_one h]; simp
  · rw [dec_big h]; simp
theorem dec_len17 {n : Nat} (h : n < 100000000000000000) : (Lib.decDigits n).length ≤ 17 := by
  have key : ∀ k n : Nat, n < 10 ^ (k + 1) → (Lib.decDigits n).length ≤ k + 1 := by
    intro k
    induction k with
    | zero => intro n hn; rw [dec_one (by simpa using hn)]; simp
    | succ k ih =>
      intro n hn
      by_cases h : n < 10
      · rw [dec_one h]; simp
      · rw [dec_big h, List.length_append]
        have := ih (n / 10) (by rw [Nat.pow_succ] at hn; omega)
        simp; omega
  exact key 16 n h
theorem atoi_itoa (w : World) (n : Int) (h1 : -100000000000000000 < n) (h2 : n < 100000000000000000) :
    Calls Tryz.prog 36 #[.string ⟨(Lib.itoa n).toArray⟩] w fun e w' => e = .returned (.tuple #[.int .i64 n, .nilIface]) ∧ Below w.heap.size w w' := by
  by_cases h : 0 ≤ n
  · obtain ⟨m, rfl⟩ : ∃ m : Nat, n = m := ⟨n.toNat, by omega⟩
    rw [Lib.itoa_nonneg]
    have hl := dec_len17 (n := m) (by omega)
    have hp := dec_pos m
    have hs : (⟨(Lib.decDigits m).toArray⟩ : ByteArray).size = (Lib.decDigits m).length := size_of (by simp)
    have := atoi_any w ⟨(Lib.decDigits m).toArray⟩ (by omega) (by omega) (by simpa using dec_digits m)
    simpa [dec_val] using this
  · obtain ⟨m, hm, rfl⟩ : ∃ m : Nat, 1 ≤ m ∧ n = -(m : Int) := ⟨n.natAbs, by omega, by omega⟩
    rw [Lib.itoa_neg m hm]
    have := atoi_neg w ⟨(45 :: Lib.decDigits m).toArray⟩ (Lib.decDigits m) (by simp) (dec_pos m) (dec_len17 (by omega)) (dec_digits m)
    simpa [dec_val] using this
/-- what cell.number goes through -/
structure NumText (s : ByteArray) (a : Nat) : Prop where
  pos : a < s.size
  small : s.size ≤ 100
  head : (a = 1 ∧ ∀ h, (s[0]'h).toNat = 45) ∨ (a = 0 ∧ ∀ h, (s[0]'h).toNat ≠ 45)
  dig : ∀ k h, a ≤ k → 48 ≤ (s[k]'h).toNat ∧ (s[k]'h).toNat ≤ 57
set_option maxRecDepth 100000 in
set_option maxHeartbeats 2000000 in
theorem number_any (w : World) (s : ByteArray) (a : Nat) (T : NumText s a) (n : Int) (hat : ∀ W : World, Calls Tryz.prog 36 #[.string s] W fun e w' => e = .returned (.tuple #[.int .i64 n, .nilIface]) ∧ Below W.heap.size W w') :
    Calls Tryz.prog 20 #[.string s] w fun e w' => e = .returned (.tuple #[.int .i64 n, .bool true]) ∧ Below w.heap.size w w' := by
  have HA := Lib.hid hat
  have HD := Lib.hid T.dig
  have hp := T.pos
  have hsm := T.small
  have hem : s.toList.isEmpty = false := by
    rw [List.isEmpty_eq_false_iff, ByteArray.toList_eq]
    intro e
    have := size_of e
    rw [List.length_nil] at this
    omega
  have h0 : 0 < s.size := by omega
  have hd0 := T.head
  clear hat T
  rcases hd0 with ⟨rfl, h1⟩ | ⟨rfl, h1⟩
  · go_enter Tryz.func20, Tryz.ntmps20
    go_wp2_with fail
    go_loopw [5] (fun i wr => ∃ k : Nat, 1 ≤ k ∧ k ≤ s.size ∧ i = .int .i64 k ∧ wr = w) (fun i _ => s.size - (intOf i).toNat)
    case atStart => exact ⟨1, Nat.le_refl _, by omega, rfl, rfl⟩
    case round =>
      obtain ⟨k, hka, hk, rfl, rfl⟩ := hrel
      by_cases hlt : k < s.size
      · have hdk := HD.out k hlt hka
        obtain ⟨y, hy⟩ : ∃ y : Nat, (s[k]'hlt).toNat = y := ⟨_, rfl⟩
        rw [hy] at hdk
        have d1 : decide ((y : Int) < 48) = false := decide_eq_false (by omega)
        have d2 : decide ((y : Int) > 57) = false := decide_eq_false (by omega)
        clear hdk
        go_wp2_with fail
        go_roundw
        case rel => exact ⟨k + 1, by omega, by omega, by go_num, by first | rfl | trivial⟩
        case measure => first | (simp [intOf]; done) | (simp [intOf]; omega)
      · obtain rfl : k = s.size := by omega
        go_wp2_with fail
        refine (HA.out wr).mono ?_
        rintro e w1 ⟨rfl, hb⟩
        go_wp2_with fail
        go_quiet (fail)
        go_wp2
        refine bodyPost_ret (v := .tuple #[.int .i64 n, .bool true]) (by simp [results, Tryz.f20, go_sem]) rfl ⟨rfl, below_drewN hb _⟩
  · have h2 := Lib.hid h1
    have h3 : ∀ h, decide (((s[0]'h).toNat : Int) = 45) = false := fun h => decide_eq_false (by have := h2.out h; omega)
    have h4 : ∀ h, (((s[0]'h).toNat : Int) == 45) = false := fun h => beq_eq_false_iff_ne.2 (by have := h2.out h; omega)
    clear h1
    go_enter Tryz.func20, Tryz.ntmps20
    go_wp2_with fail
    go_loopw [5] (fun i wr => ∃ k : Nat, 0 ≤ k ∧ k ≤ s.size ∧ i = .int .i64 k ∧ wr = w) (fun i _ => s.size - (intOf i).toNat)
    case atStart => exact ⟨0, Nat.le_refl _, by omega, rfl, rfl⟩
    case round =>
      obtain ⟨k, hka, hk, rfl, rfl⟩ := hrel
      by_cases hlt : k < s.size
      · have hdk := HD.out k hlt hka
        obtain ⟨y, hy⟩ : ∃ y : Nat, (s[k]'hlt).toNat = y := ⟨_, rfl⟩
        rw [hy] at hdk
        have d1 : decide ((y : Int) < 48) = false := decide_eq_false (by omega)
        have d2 : decide ((y : Int) > 57) = false := decide_eq_false (by omega)
        clear hdk
        go_wp2_with fail
        go_roundw
        case rel => exact ⟨k + 1, by omega, by omega, by go_num, by first | rfl | trivial⟩
        case measure => first | (simp [intOf]; done) | (simp [intOf]; omega)
      · obtain rfl : k = s.size := by omega
        go_wp2_with fail
        refine (HA.out wr).mono ?_
        rintro e w1 ⟨rfl, hb⟩
        go_wp2_with fail
        go_quiet (fail)
        go_wp2
        refine bodyPost_ret (v := .tuple #[.int .i64 n, .bool true]) (by simp [results, Tryz.f20, go_sem]) rfl ⟨rfl, below_drewN hb _⟩
end Go.Proofs.YtehbfpcfbpbllaaGreatDoor
