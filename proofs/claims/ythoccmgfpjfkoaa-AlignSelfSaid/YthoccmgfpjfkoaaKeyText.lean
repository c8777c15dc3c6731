/- The walks of PutText, PutList of package code and of the document. -/
import Derived.Test.YthoccmgfpjfkoaaKeyPut
import Derived.Test.YthoccmgfpjfkoaaMem2
namespace Go.Proofs.Ythoccmgfpjfkoaa
open Go.RowKit

theorem byteInfo : (Try.prog.info? 5).map (fun i => (i.zero, i.size, i.bytes)) = some (some (.int .u8 0), 1, 1) := by kernel_rfl
theorem strCells_eq (s : ByteArray) : Lib.strCells s = s.data.toList.map vByte := rfl

set_option maxRecDepth 100000 in
theorem putText_any (w : World) (s : ByteArray) (hs : s.size ≤ 5000000) :
    Calls Try.prog 44 #[.string s] w fun e w' => ∃ v, e = .returned v ∧ w'.ownsRow w.heap.size 5 1 v (Code.putText s.data.toList).length ((Code.putText s.data.toList).map vByte) ∧ Below w.heap.size w w' := by
  obtain ⟨i, hi, hz, hsize, hby⟩ := info_parts byteInfo
  go_enter Try.func44, Try.ntmps44
  go_wp2_with fail
  refine (put_any w s.size (by omega)).mono ?_
  rintro e w1 ⟨v, rfl, hown, hb⟩
  have h9 := putL_len9 (n := s.size) (by omega)
  have hpn : Code.putN (s.size : Int) = Code.putL s.size := by unfold Code.putN; rw [if_neg (by omega)]; rfl
  rw [hpn] at hown
  clear hpn
  have hsz := hb.size
  go_wp2_with (at_builtin; refine Lib.wpList_append_own_string _ rfl _ _ 46 9 rfl w.heap.size 5 i Try.underlying46 Try.underlying9 hi hz hsize hby v _ _ rfl hown s rfl ?_ ?_ hsz ?_; rotate_right; intro v1 w2 hown1 hg1 hk1)
  · go_ret
    refine ⟨_, rfl, ?_, below_grown hb hown hg1 (Nat.le_refl _) hsz⟩
    have e1 : Code.putText s.data.toList = Code.putL s.size ++ s.data.toList := rfl
    rw [e1, List.map_append, List.length_append]
    exact hown1
  · unfold maxLen; omega
  · omega
set_option maxRecDepth 100000 in
theorem rputText_any (w : World) (s : ByteArray) (hs : s.size ≤ 5000000) :
    Calls Try.prog 46 #[.string s] w fun e w' => ∃ v, e = .returned v ∧ w'.ownsRow w.heap.size 5 1 v (Code.putText s.data.toList).length ((Code.putText s.data.toList).map vByte) ∧ Below w.heap.size w w' := by
  obtain ⟨i, hi, hz, hsize, hby⟩ := info_parts byteInfo
  go_enter Try.func46, Try.ntmps46
  go_wp2_with fail
  refine (rput_any w s.size (by omega)).mono ?_
  rintro e w1 ⟨v, rfl, hown, hb⟩
  have h9 := putL_len9 (n := s.size) (by omega)
  have hpn : Code.putN (s.size : Int) = Code.putL s.size := by unfold Code.putN; rw [if_neg (by omega)]; rfl
  rw [hpn] at hown
  clear hpn
  have hsz := hb.size
  go_wp2_with (at_builtin; refine Lib.wpList_append_own_string _ rfl _ _ 46 9 rfl w.heap.size 5 i Try.underlying46 Try.underlying9 hi hz hsize hby v _ _ rfl hown s rfl ?_ ?_ hsz ?_; rotate_right; intro v1 w2 hown1 hg1 hk1)
  · go_ret
    refine ⟨_, rfl, ?_, below_grown hb hown hg1 (Nat.le_refl _) hsz⟩
    have e1 : Code.putText s.data.toList = Code.putL s.size ++ s.data.toList := rfl
    rw [e1, List.map_append, List.length_append]
    exact hown1
  · unfold maxLen; omega
  · omega

def bytesOf (s : ByteArray) : List UInt8 := s.data.toList
theorem bytesOf_len (s : ByteArray) : (bytesOf s).length = s.size := by unfold bytesOf; rw [Array.length_toList]; rfl
/-- a list's bytes, up to the k-th text -/
def listTo (l : List ByteArray) (k : Nat) : List UInt8 := Code.putL l.length ++ ((l.map bytesOf).take k).flatMap Code.putText
theorem listTo_zero (l : List ByteArray) : listTo l 0 = Code.putL l.length := by simp [listTo]
theorem listTo_succ {l : List ByteArray} {k : Nat} (h : k < l.length) : listTo l (k + 1) = listTo l k ++ Code.putText (bytesOf l[k]) := by
  unfold listTo
  rw [take_snoc (by simpa using h), List.flatMap_append, List.append_assoc]
  simp
theorem listTo_all (l : List ByteArray) : listTo l l.length = Code.putList (l.map bytesOf) := by
  unfold listTo Code.putList
  rw [List.take_of_length_le (by simp), List.length_map]
theorem putText_len {s : ByteArray} (h : s.size ≤ 1048576) : (Code.putText (bytesOf s)).length ≤ 1048585 := by
  unfold Code.putText
  have := putL_len9 (n := (bytesOf s).length) (by rw [bytesOf_len]; omega)
  rw [List.length_append, bytesOf_len] at *
  omega
theorem listTo_len {l : List ByteArray} (hl : l.length ≤ 1000) (h : ∀ s ∈ l, s.size ≤ 1048576) : ∀ k, k ≤ l.length → (listTo l k).length ≤ 9 + 1048585 * k
  | 0, _ => by rw [listTo_zero]; have := putL_len9 (n := l.length) (by omega); omega
  | k + 1, hk => by
    rw [listTo_succ (by omega), List.length_append]
    have := listTo_len hl h k (by omega)
    have := putText_len (h l[k] (List.getElem_mem _))
    omega

set_option maxRecDepth 100000 in
set_option maxHeartbeats 400000 in
theorem putList_any (w : World) (A : Option Addr) (l : List ByteArray) (c : Nat) (hA : At1 vStr w A l) (hl : l.length ≤ 1000) (hs : ∀ s ∈ l, s.size ≤ 1048576) :
    Calls Try.prog 31 #[.slice A l.length c] w fun e w' => ∃ v, e = .returned v ∧ w'.ownsRow w.heap.size 5 1 v (Code.putList (l.map bytesOf)).length ((Code.putList (l.map bytesOf)).map vByte) ∧ Below w.heap.size w w' := by
  have HLT := Lib.hid (listTo_len hl hs)
  rw [← listTo_all]
  go_enter Try.func31, Try.ntmps31
  go_wp2_with fail
  refine (put_any w l.length (by omega)).mono ?_
  rintro e w1 ⟨v, rfl, hown, hb⟩
  have hpn : Code.putN (l.length : Int) = listTo l 0 := by rw [listTo_zero]; unfold Code.putN; rw [if_neg (by omega)]; rfl
  rw [hpn] at hown
  clear hpn
  have HS := Lib.hid hs
  have HA := Lib.hid hA
  clear hs hA
  go_wp2
  go_loopw [3, 5, 11] (fun v _ i wr => ∃ k : Nat, k ≤ l.length ∧ i = .int .i64 k ∧ wr.ownsRow w.heap.size 5 1 v (listTo l k).length ((listTo l k).map vByte) ∧ Below w.heap.size w wr) (fun _ _ i _ => l.length - (intOf i).toNat)
  case atStart => exact ⟨0, Nat.zero_le _, rfl, hown, hb⟩
  case round =>
    clear hown hb
    obtain ⟨k, hk, rfl, hown, hb⟩ := hrel
    have hsz := hb.size
    by_cases hlt : k < l.length
    · obtain ⟨ad, rfl, hc⟩ := (HA.out.below hb).at_ hlt
      have hsk := HS.out l[k] (List.getElem_mem _)
      have hsucc := Lib.hid (listTo_succ hlt)
      have hlen := HLT.out k hk
      generalize l[k] = s at hc hsk hsucc
      have htl := putText_len hsk
      go_wp2_with fail
      refine (putText_any wr s (by omega)).mono ?_
      rintro e w2 ⟨v2, rfl, hown2, hb2⟩
      obtain ⟨B, d, rfl, hB, _⟩ := own_reads hown2 (by have : (Code.putText s.data.toList).length ≤ 1048585 := htl
                                                       omega)
      have hown1 := own_below hown hb2
      have hb3 := hb.trans (hb2.mono hsz)
      have hsz3 := hb3.size
      clear hown hown2 hb2 hc hb
      have HT : Hid (Code.putText s.data.toList = Code.putText (bytesOf s)) := rfl
      generalize Code.putText s.data.toList = T at *
      rw [← HT.out] at htl
      go_wp2_with (at_builtin; refine wpList_appAll eByte rfl rfl hown1 rfl rfl rfl hB (fun _ => rfl) (by omega) hsz3 ?_; intro v3 w3 hown3 hg3 hk3)
      go_roundw
      case rel => exact ⟨k + 1, by omega, by go_num, by rw [hsucc.out, ← HT.out, List.map_append, List.length_append]; exact hown3, below_grown hb3 hown1 hg3 (Nat.le_refl _) hsz3⟩
      case measure => first | (simp [intOf]; done) | (simp [intOf]; omega)
    · obtain rfl : k = l.length := by omega
      go_wp2
      go_ret
      exact ⟨_, rfl, hown, hb⟩
set_option maxRecDepth 100000 in
set_option maxHeartbeats 400000 in
theorem rputList_any (w : World) (A : Option Addr) (l : List ByteArray) (c : Nat) (hA : At1 vStr w A l) (hl : l.length ≤ 1000) (hs : ∀ s ∈ l, s.size ≤ 1048576) :
    Calls Try.prog 32 #[.slice A l.length c] w fun e w' => ∃ v, e = .returned v ∧ w'.ownsRow w.heap.size 5 1 v (Code.putList (l.map bytesOf)).length ((Code.putList (l.map bytesOf)).map vByte) ∧ Below w.heap.size w w' := by
  have HLT := Lib.hid (listTo_len hl hs)
  rw [← listTo_all]
  go_enter Try.func32, Try.ntmps32
  go_wp2_with fail
  refine (rput_any w l.length (by omega)).mono ?_
  rintro e w1 ⟨v, rfl, hown, hb⟩
  have hpn : Code.putN (l.length : Int) = listTo l 0 := by rw [listTo_zero]; unfold Code.putN; rw [if_neg (by omega)]; rfl
  rw [hpn] at hown
  clear hpn
  have HS := Lib.hid hs
  have HA := Lib.hid hA
  clear hs hA
  go_wp2
  go_loopw [3, 4] (fun v i wr => ∃ k : Nat, k ≤ l.length ∧ i = .int .i64 k ∧ wr.ownsRow w.heap.size 5 1 v (listTo l k).length ((listTo l k).map vByte) ∧ Below w.heap.size w wr) (fun _ i _ => l.length - (intOf i).toNat)
  case atStart => exact ⟨0, Nat.zero_le _, rfl, hown, hb⟩
  case round =>
    clear hown hb
    obtain ⟨k, hk, rfl, hown, hb⟩ := hrel
    have hsz := hb.size
    by_cases hlt : k < l.length
    · obtain ⟨ad, rfl, hc⟩ := (HA.out.below hb).at_ hlt
      have hsk := HS.out l[k] (List.getElem_mem _)
      have hsucc := Lib.hid (listTo_succ hlt)
      have hlen := HLT.out k hk
      generalize l[k] = s at hc hsk hsucc
      have htl := putText_len hsk
      go_wp2_with fail
      refine (rputText_any wr s (by omega)).mono ?_
      rintro e w2 ⟨v2, rfl, hown2, hb2⟩
      obtain ⟨B, d, rfl, hB, _⟩ := own_reads hown2 (by have : (Code.putText s.data.toList).length ≤ 1048585 := htl
                                                       omega)
      have hown1 := own_below hown hb2
      have hb3 := hb.trans (hb2.mono hsz)
      have hsz3 := hb3.size
      clear hown hown2 hb2 hc hb
      have HT : Hid (Code.putText s.data.toList = Code.putText (bytesOf s)) := rfl
      generalize Code.putText s.data.toList = T at *
      rw [← HT.out] at htl
      go_wp2_with (at_builtin; refine wpList_appAll eByte rfl rfl hown1 rfl rfl rfl hB (fun _ => rfl) (by omega) hsz3 ?_; intro v3 w3 hown3 hg3 hk3)
      go_roundw
      case rel => exact ⟨k + 1, by omega, by go_num, by rw [hsucc.out, ← HT.out, List.map_append, List.length_append]; exact hown3, below_grown hb3 hown1 hg3 (Nat.le_refl _) hsz3⟩
      case measure => first | (simp [intOf]; done) | (simp [intOf]; omega)
    · obtain rfl : k = l.length := by omega
      go_wp2
      go_ret
      exact ⟨_, rfl, hown, hb⟩

end Go.Proofs.Ythoccmgfpjfkoaa
