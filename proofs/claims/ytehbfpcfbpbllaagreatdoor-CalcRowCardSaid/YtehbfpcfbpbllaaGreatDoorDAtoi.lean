/- strconv.Atoi of digits; strings.Cut where the sign is not there. -/
import Derived.Test.YtehbfpcfbpbllaaGreatDoorMem2
import Derived.Test.YtehbfpcfbpbllaaGreatDoorChecked
import Derived.Lib.Hide
import Derived.Lib.Bytealg
import Derived.Laws.IdiomStrings
import Derived.BigQuiet
import Derived.LoopN
namespace Go.Proofs.YtehbfpcfbpbllaaGreatDoor
open Go.RowKit
theorem bytes_conv (W : World) (s : ByteArray) (hs : s.size ≤ 9223372036854775807) : ∃ c W', (convert 9 44 (.string s)).run Tryz.prog W = .ok (.slice (some ⟨W.heap.size, 0, none⟩) s.size c) W' ∧ At1 vByte W' (some ⟨W.heap.size, 0, none⟩) s.data.toList ∧ Below W.heap.size W W' := by
  refine ⟨_, _, run_bytes_of_string W _ _ 5 s Tryz.underlying9 Tryz.underlying44 Tryz.underlying5, ⟨by rw [Array.length_toList]; exact hs, fun _ => ⟨_, rfl, fun i x hx => ?_⟩⟩, ?_⟩
  · have h9 : ∀ (C : Array Value) (f : Nat × Nat), (W.drew.alloc (.cells C 5 f)).heap[W.heap.size]? = some (.cells C 5 f) := fun C f => by
      show (W.heap.push _)[W.heap.size]? = _
      simp
    have e1 : (⟨W.heap.size, 0, none⟩ : Addr).add i = ⟨W.heap.size, i, none⟩ := by unfold Addr.add; split <;> simp_all
    rw [e1]
    unfold World.cell?
    rw [h9]
    have hx' : s.data[i]? = some x := by rw [← Array.getElem?_toList]; exact hx
    simp [bytesRow, Array.getElem?_append, hx']
    intro h8
    have := (Array.getElem?_eq_some_iff.1 hx').1
    have e : s.size = s.data.size := rfl
    omega
  · exact ((Below.refl _ _).drew).alloc (Nat.le_refl _) _
theorem addr0 (b k : Nat) : (⟨b, 0, none⟩ : Addr).add k = ⟨b, k, none⟩ := by unfold Addr.add; split <;> simp_all
def valD (l : List UInt8) : Nat := l.foldl (fun n b => 10 * n + (b.toNat - 48)) 0
theorem valD_snoc (l : List UInt8) (b : UInt8) : valD (l ++ [b]) = 10 * valD l + (b.toNat - 48) := by simp [valD, List.foldl_append]
theorem valD_lt (l : List UInt8) (hd : ∀ b ∈ l, 48 ≤ b.toNat ∧ b.toNat ≤ 57) : valD l < 10 ^ l.length := by
  have key : ∀ k, k ≤ l.length → valD (l.take k) < 10 ^ k := by
    intro k
    induction k with
    | zero => intro _; simp [valD]
    | succ k ih =>
      intro hk
      have h1 := ih (by omega)
      rw [take_snoc (show k < l.length by omega), valD_snoc, Nat.pow_succ]
      have := hd _ (List.getElem_mem (show k < l.length by omega))
      omega
  have := key l.length (Nat.le_refl _)
  rwa [List.take_length] at this
theorem byte_at {s : ByteArray} {b : UInt8} {r : List UInt8} (h : s.data.toList = b :: r) : ∀ h9, (s[0]'h9).toNat = b.toNat := by
  intro h9
  have e : s.data[0]'h9 = b := by
    have h1 : s.data.toList[0]? = some b := by rw [h]; rfl
    rw [Array.getElem?_toList, Array.getElem?_eq_getElem h9] at h1
    injection h1
  show (s.data[0]'h9).toNat = _
  rw [e]
set_option maxRecDepth 100000 in
set_option maxHeartbeats 2000000 in
theorem iatoi_any (w : World) (s : ByteArray) (h0 : 0 < s.size) (h18 : s.size ≤ 18) (hd : ∀ b ∈ s.data.toList, 48 ≤ b.toNat ∧ b.toNat ≤ 57) :
    Calls Tryz.prog 57 #[.string s] w fun e w' => e = .returned (.tuple #[.int .i64 (valD s.data.toList), .nilIface]) ∧ Below w.heap.size w w' := by
  obtain ⟨c, W1, hcv, hat, hb⟩ := bytes_conv w s (by omega)
  obtain ⟨l, hl⟩ : ∃ l, s.data.toList = l := ⟨_, rfl⟩
  have hll : l.length = s.size := by rw [← hl, Array.length_toList]; rfl
  rw [hl] at hat hd ⊢
  obtain ⟨b, r, hbr⟩ : ∃ b r, l = b :: r := by
    cases l with
    | nil => simp at hll; omega
    | cons b r => exact ⟨b, r, rfl⟩
  have hbt := byte_at (hl.trans hbr)
  have hb1 := hd b (by rw [hbr]; simp)
  have n1 : ((b.toNat : Int) == 45) = false := beq_eq_false_iff_ne.2 (by omega)
  have n2 : ((b.toNat : Int) == 43) = false := beq_eq_false_iff_ne.2 (by omega)
  have HD := Lib.hid hd
  have HV := Lib.hid (fun k (hk : k ≤ l.length) => show valD (l.take k) < 10 ^ 18 from by
    have h1 := valD_lt (l.take k) (fun b hb => hd b (List.mem_of_mem_take hb))
    rw [List.length_take] at h1
    have h2 : 10 ^ min k l.length ≤ 10 ^ 18 := Nat.pow_le_pow_right (by omega) (by omega)
    omega)
  clear hbr hd hb1
  go_enter Tryz.func57, Tryz.ntmps57
  go_wp2_with fail
  go_loopw [6, 49] (fun n u wi => ∃ k : Nat, k ≤ l.length ∧ u = .int .i64 k ∧ n = .int .i64 (valD (l.take k)) ∧ wi = W1) (fun _ u _ => l.length - (intOf u).toNat)
  case atStart => exact ⟨0, Nat.zero_le _, rfl, rfl, rfl⟩
  case round =>
    obtain ⟨k, hk, rfl, rfl, rfl⟩ := hrel
    by_cases hlt : k < l.length
    · have hks : k < s.size := by omega
      obtain ⟨x, hx⟩ : ∃ x, l[k]? = some x := ⟨_, List.getElem?_eq_getElem hlt⟩
      have hxd := HD.out x (List.mem_of_getElem? hx)
      obtain ⟨pa, e, hc⟩ := hat.2 (by omega)
      cases e
      have c0 := hc k x hx
      have HS := Lib.hid (show valD (l.take (k + 1)) = 10 * valD (l.take k) + (x.toNat - 48) by
        obtain ⟨z1, z2⟩ := List.getElem?_eq_some_iff.1 hx
        rw [take_snoc z1, z2, valD_snoc])
      have hv := HV.out k hk
      obtain ⟨v, hve⟩ : ∃ v, valD (l.take k) = v := ⟨_, rfl⟩
      rw [hve] at hv HS ⊢
      obtain ⟨y, hy⟩ : ∃ y : Nat, x.toNat = y + 48 := ⟨x.toNat - 48, by omega⟩
      rw [hy, show y + 48 - 48 = y by omega] at HS
      have hc0 : wr.cell? ⟨w.heap.size, k, none⟩ = some (.int .u8 ((y : Int) + 48)) := by rw [← addr0, c0]; unfold vByte; rw [hy]; push_cast; rfl
      have hy9 : y ≤ 9 := by omega
      have hv2 := HV.out (k + 1) (by omega)
      rw [HS.out] at hv2
      have hv3 : v ≤ 1000000000000000000 := by omega
      have hv4 : 10 * v + y ≤ 1000000000000000000 := by omega
      clear hv hv2
      clear hx hc c0 hve hy hxd
      go_wp2_with fail
      go_roundw
      case rel => exact ⟨k + 1, by omega, by go_num, by rw [HS.out]; go_num, by first | rfl | trivial⟩
      case measure => first | (simp [intOf]; done) | (simp [intOf]; omega)
    · have hke : k = l.length := by omega
      subst hke
      rw [List.take_length]
      go_wp2_with fail
      refine bodyPost_ret (v := .tuple #[.int .i64 (valD l), .nilIface]) (by simp [results, Tryz.f57, go_sem]) rfl ⟨rfl, hb⟩
set_option maxRecDepth 100000 in
theorem atoi_any (w : World) (s : ByteArray) (h0 : 0 < s.size) (h18 : s.size ≤ 18) (hd : ∀ b ∈ s.data.toList, 48 ≤ b.toNat ∧ b.toNat ≤ 57) :
    Calls Tryz.prog 36 #[.string s] w fun e w' => e = .returned (.tuple #[.int .i64 (valD s.data.toList), .nilIface]) ∧ Below w.heap.size w w' := by
  obtain ⟨v, hv⟩ : ∃ v, valD s.data.toList = v := ⟨_, rfl⟩
  go_enter Tryz.func36, Tryz.ntmps36
  go_wp2_with fail
  refine (iatoi_any w s h0 h18 hd).mono ?_
  rintro e w1 ⟨rfl, hb⟩
  rw [hv]
  go_wp2_with fail
  refine bodyPost_ret (v := .tuple #[.int .i64 v, .nilIface]) (by simp [results, Tryz.f36, go_sem]) rfl ⟨by rw [hv], hb⟩
theorem run_ib (s : ByteArray) (c : Int) (W : World) : (callFunc 220 #[.string s, .int .u8 c]).run Tryz.prog W = .ok (.value (.int .i64 (Lib.indexByte s.data.toList c.toNat.toUInt8))) W := by
  rw [run_callFunc_extern Tryz.func220 (by kernel_rfl) (by kernel_rfl) (by kernel_rfl) (e := Extern.BytealgIndexByte.indexByte) (by kernel_rfl), Lib.run_indexByteString]
  rfl
set_option maxRecDepth 100000 in
set_option maxHeartbeats 2000000 in
/-- strings.Cut at '!', that is not there -/
theorem icut_any (w : World) (s : ByteArray) (hn : Lib.indexByte s.data.toList 33 = -1) (hne : s ≠ ⟨#[33]⟩) :
    Calls Tryz.prog 184 #[.string s, .string ⟨#[33]⟩] w fun e w' => e = .returned (.tuple #[.string s, .string ⟨#[]⟩, .bool false]) ∧ w' = w := by
  have b0 : ∀ h, ((⟨#[33]⟩ : ByteArray)[0]'h).toNat = 33 := fun _ => rfl
  have hib : ∀ W, (callFunc 220 #[.string s, .int .u8 33]).run Tryz.prog W = .ok (.value (.int .i64 (-1))) W := fun W => by rw [run_ib, ← hn]; rfl
  have z0 : ([33] == s.toList) = false := by have := str_eq_false (a := ⟨#[33]⟩) (b := s) (Ne.symm hne); rwa [Lib.toList_data ⟨#[33]⟩] at this
  go_enter Tryz.func184, Tryz.ntmps184
  go_wp2
  refine bodyPost_ret (v := .tuple #[.string s, .string ⟨#[]⟩, .bool false]) (by simp [results, Tryz.f184, go_sem]) rfl ⟨rfl, rfl⟩
set_option maxRecDepth 100000 in
theorem cut_any (w : World) (s : ByteArray) (hn : Lib.indexByte s.data.toList 33 = -1) (hne : s ≠ ⟨#[33]⟩) :
    Calls Tryz.prog 143 #[.string s, .string ⟨#[33]⟩] w fun e w' => e = .returned (.tuple #[.string s, .string ⟨#[]⟩, .bool false]) ∧ w' = w := by
  go_enter Tryz.func143, Tryz.ntmps143
  go_wp2_with fail
  refine (icut_any w s hn hne).mono ?_
  rintro e w1 ⟨rfl, rfl⟩
  go_wp2_with fail
  refine bodyPost_ret (v := .tuple #[.string s, .string ⟨#[]⟩, .bool false]) (by simp [results, Tryz.f143, go_sem]) rfl ⟨rfl, rfl⟩
end Go.Proofs.YtehbfpcfbpbllaaGreatDoor
