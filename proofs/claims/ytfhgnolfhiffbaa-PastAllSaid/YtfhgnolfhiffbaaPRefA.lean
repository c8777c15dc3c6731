/- The document's side: chequerref1.Texts, chequerref21.Line, depths, Depth. -/
import Derived.Test.YtfhgnolfhiffbaaPMade
import Derived.Test.YtfhgnolfhiffbaaPDeep
import Derived.BigQuiet
namespace Go.Proofs.Ytfhgnolfhiffbaa
open Go.RowKit Go.Maps
set_option maxRecDepth 100000 in
theorem texts_eq (w : World) (A B : Option Addr) (l : List ByteArray) (n m c d : Nat) (hn : l.length = n) (hm : l.length = m) (hA : At1 vStr w A l) (hB : At1 vStr w B l) :
    Calls Try.prog 26 #[.slice A n c, .slice B m d] w fun e w' => e = .returned (.bool true) ∧ Below w.heap.size w w' := by
  subst hn hm
  obtain ⟨hx, hA⟩ := hA
  obtain ⟨hy, hB⟩ := hB
  go_enter Try.func26, Try.ntmps26
  go_wp2
  go_loopw [5] (fun i wr => ∃ (k n : Nat), k ≤ l.length ∧ i = .int .i64 k ∧ wr = w.drewN n) (fun i _ => l.length - (intOf i).toNat)
  case atStart => exact ⟨0, 0, Nat.zero_le _, rfl, rfl⟩
  case round =>
    obtain ⟨k, n, hk, rfl, rfl⟩ := hrel
    by_cases hlt : k < l.length
    · obtain ⟨ad, rfl, hc⟩ := hA (by omega)
      obtain ⟨bd, rfl, hd⟩ := hB (by omega)
      have hc1 : w.cell? (ad.add k) = some (.string l[k]) := hc k _ (List.getElem?_eq_getElem hlt)
      have hd1 : w.cell? (bd.add k) = some (.string l[k]) := hd k _ (List.getElem?_eq_getElem hlt)
      clear hc hd hA hB
      generalize l[k] = s at hc1 hd1
      go_wp2
      go_quiet (fail)
      go_wp2
      go_roundw
      case rel => exact ⟨k + 1, n + nq, by omega, by go_num, rfl⟩
      case measure => first | (simp [intOf]; done) | (simp [intOf]; omega)
    · go_wp2
      go_ret
      exact ⟨rfl, below_drewN (Below.refl _ _) _⟩
theorem eIntP : EInfo Try.prog 65 3 (.int .i64 0) 1 8 := ⟨Try.underlying65, by kernel_rfl, rfl, by decide, by decide⟩
/-- the line of any text: none where it is no commit's -/
def lineG (l : List HC) (x : ByteArray) : List ByteArray := if posN (idsOf l) x < l.length then lineF l (posN (idsOf l) x + 1) (posN (idsOf l) x) else []
set_option maxRecDepth 100000 in
theorem line_none (w : World) (A : Option Addr) (l : List HC) (c : Nat) (h : AtC w A l) (x : ByteArray) (hp : posI (idsOf l) x = -1) :
    Calls Try.prog 14 #[.slice A l.length c, .string x] w fun e w' => e = .returned (.slice none 0 0) ∧ Below w.heap.size w w' := by
  go_enter Try.func14, Try.ntmps14
  go_wp2_with fail
  refine (find_any _ A l c h x).mono ?_
  rintro e w1 ⟨rfl, hb1⟩
  rw [hp]
  go_wp2_with fail
  go_loopw [1, 5, 6] (fun s v u wr => s = .string x ∧ v = .slice none 0 0 ∧ u = .int .i64 (-1) ∧ wr = w1) (fun _ _ _ _ => 0)
  case atStart => exact ⟨rfl, rfl, rfl, rfl⟩
  case round =>
    obtain ⟨rfl, rfl, rfl, rfl⟩ := hrel
    go_wp2
    go_ret
    exact ⟨rfl, hb1⟩
theorem posI_of {S : List ByteArray} {x : ByteArray} (h : posN S x < S.length) : posI S x = (posN S x : Int) := by unfold posI; rw [if_pos h]
theorem posI_no {S : List ByteArray} {x : ByteArray} (h : ¬ posN S x < S.length) : posI S x = -1 := by unfold posI; rw [if_neg h]
theorem line_all (w : World) (A : Option Addr) (l : List HC) (c : Nat) (h : AtC w A l) (hh : HistIn l) (x : ByteArray) :
    Calls Try.prog 14 #[.slice A l.length c, .string x] w (LinePost w (lineG l x)) := by
  unfold lineG
  by_cases e : posN (idsOf l) x < l.length
  · rw [if_pos e]
    exact line_any w A l c h hh.hist x _ rfl e hh.len
  · rw [if_neg e]
    refine (line_none w A l c h x (posI_no (by rw [idsOf_len]; exact e))).mono ?_
    rintro e w' ⟨rfl, h3⟩
    exact ⟨none, 0, rfl, ⟨Nat.zero_le _, fun h9 => absurd h9 (Nat.lt_irrefl 0)⟩, h3⟩
set_option maxRecDepth 100000 in
theorem rline_none (w : World) (A : Option Addr) (l : List HC) (c : Nat) (h : AtC w A l) (x : ByteArray) (hp : posI (idsOf l) x = -1) :
    Calls Try.prog 28 #[.slice A l.length c, .string x] w fun e w' => e = .returned (.slice none 0 0) ∧ Below w.heap.size w w' := by
  go_enter Try.func28, Try.ntmps28
  go_wp2_with fail
  refine (at_any _ A l c h x).mono ?_
  rintro e w1 ⟨rfl, rfl⟩
  rw [hp]
  go_wp2_with fail
  go_loopw [5, 6] (fun v u wr => v = .slice none 0 0 ∧ u = .int .i64 (-1) ∧ wr = w1) (fun _ _ _ => 0)
  case atStart => exact ⟨rfl, rfl, rfl⟩
  case round =>
    obtain ⟨rfl, rfl, rfl⟩ := hrel
    go_wp2
    go_ret
    exact ⟨rfl, Below.refl _ _⟩
set_option maxRecDepth 100000 in
set_option maxHeartbeats 1000000 in
theorem rline_some (w : World) (A : Option Addr) (l : List HC) (c : Nat) (h : AtC w A l) (hh : Hist l) (x : ByteArray) (k0 : Nat) (hk0 : posN (idsOf l) x = k0) (hkl : k0 < l.length) (hL : l.length ≤ 1000) :
    Calls Try.prog 28 #[.slice A l.length c, .string x] w (LinePost w (lineF l (k0 + 1) k0)) := by
  have hp0 : posI (idsOf l) x = (k0 : Int) := by unfold posI; rw [hk0, if_pos (by rw [idsOf_len]; exact hkl)]
  obtain ⟨R, hR⟩ : ∃ R, lineF l (k0 + 1) k0 = R := ⟨_, rfl⟩
  have hRl : R.length ≤ 1001 := by rw [← hR]; have := lineF_len l (k0 + 1) k0; omega
  rw [hR]
  go_enter Try.func28, Try.ntmps28
  go_wp2_with fail
  refine (at_any _ A l c h x).mono ?_
  rintro e w1 ⟨rfl, rfl⟩
  rw [hp0]
  go_wp2_with fail
  go_loopw [5, 6] (fun v u wr => ∃ (k : Nat) (y : HC) (out : List ByteArray), l[k]? = some y ∧ u = .int .i64 k ∧ wr.ownsRow w1.heap.size 9 1 v out.length (out.map vStr) ∧ Hid (out ++ lineF l (k + 1) k = R) ∧ Below w1.heap.size w1 wr) (fun _ u _ => (intOf u).toNat)
  case atStart =>
    obtain ⟨y, hy⟩ : ∃ y, l[k0]? = some y := ⟨_, List.getElem?_eq_getElem hkl⟩
    exact ⟨k0, y, [], hy, rfl, World.ownsRow_nil _ _ _ _, by simpa [Hid] using hR, Below.refl _ _⟩
  case round =>
    obtain ⟨k, y, out, hy, rfl, hown, hr, hb⟩ := hrel
    obtain ⟨B, cap, rfl, _, _⟩ := own_form hown
    have hsr := hb.size
    have hkl2 : k < l.length := (List.getElem?_eq_some_iff.1 hy).1
    have hol : out.length ≤ 1001 := by have := congrArg List.length hr.out; rw [List.length_append] at this; omega
    have HBK := Lib.hid (fun W (hW : Below w1.heap.size w1 W) => (h.below hW))
    have hym := List.mem_of_getElem? hy
    obtain ⟨n, hn⟩ : ∃ n, out.length = n := ⟨_, rfl⟩
    rw [hn] at hown hol ⊢
    have HN := Lib.hid hn
    clear hn
    obtain ⟨bb, oo, hAe, hcc⟩ := (HBK.out _ hb).2.2 (by omega)
    obtain ⟨z0, _, _, _⟩ := hcc k y hy
    subst hAe
    clear hcc
    cases hps : y.ps with
    | nil =>
      have HR := Lib.hid (show out ++ [y.id] = R by rw [← hr.out, lineF_none hy hps])
      go_wp2_with (at_builtin; refine wpList_app1 eStr rfl rfl hown rfl rfl rfl rfl (by omega) hsr ?_; intro v1 w9 hown9 hg1 hk1; obtain ⟨A9, c9, rfl, _⟩ := own_form hown9; have hb9 := below_grown hb hown hg1 (Nat.le_refl _) hsr; obtain ⟨b2, o2, hAe2, hcc⟩ := (HBK.out _ hb9).2.2 (by omega); cases hAe2; obtain ⟨c0, c1, _, _⟩ := hcc k y hy; rw [hps] at c1; clear hcc)
      have hRn : R.length = n + 1 := by rw [← HR.out, List.length_append, HN.out]; rfl
      have hown10 : w9.ownsRow w1.heap.size 9 1 (.slice A9 (n + 1) c9) (n + 1) (R.map vStr) := by rw [← HR.out, List.map_append]; exact hown9
      refine bodyPost_ret (v := .slice A9 (n + 1) c9) (by simp [results, Try.f28, go_sem]) rfl ⟨A9, c9, by rw [hRn], At1.of_own (n := n + 1) hown10 (by omega), hb9⟩
    | cons p r =>
      have hpk := hh.ahead k y hy p (by rw [hps]; simp)
      have hpl : posN (idsOf l) p < l.length := by omega
      obtain ⟨z, hz, hzp⟩ := posN_id hpl
      have HR := Lib.hid (show (out ++ [y.id]) ++ lineF l (posN (idsOf l) p + 1) (posN (idsOf l) p) = R by
        rw [← hr.out, lineF_some hy hps, List.append_assoc]
        show out ++ (y.id :: lineF l (posN (idsOf l) p + 1) (posN (idsOf l) p)) = _
        rw [lineF_fuel hh _ _ k (Nat.lt_succ_self _) hpk])
      have hpi : posI (idsOf l) p = (posN (idsOf l) p : Int) := by unfold posI; rw [if_pos (by rw [idsOf_len]; exact hpl)]
      obtain ⟨m, hm⟩ : ∃ m, posN (idsOf l) p = m := ⟨_, rfl⟩
      rw [hm] at HR hz hpi hpk
      have HP := Lib.hid hpi
      have HZ := Lib.hid hz
      subst hzp
      clear hpi hpl hm hr hz
      go_wp2_with (at_builtin; refine wpList_app1 eStr rfl rfl hown rfl rfl rfl rfl (by omega) hsr ?_; intro v1 w9 hown9 hg1 hk1; obtain ⟨A9, c9, rfl, _⟩ := own_form hown9; have hb9 := below_grown hb hown hg1 (Nat.le_refl _) hsr; obtain ⟨b2, o2, hAe2, hcc⟩ := (HBK.out _ hb9).2.2 (by omega); cases hAe2; obtain ⟨c0, c1, _, _⟩ := hcc k y hy; rw [hps] at c1; clear hcc; have hps2 := (HBK.out _ hb9).2.1 y hym; rw [hps] at hps2; obtain ⟨pa, hpa, hpc⟩ := hps2.2 (by simp); have hp0 := hpc 0 z.id rfl; rw [add_zero_] at hp0; clear hps2 hpc)
      refine (at_any w9 _ l c (HBK.out _ hb9) z.id).mono ?_
      rintro e w10 ⟨rfl, rfl⟩
      rw [HP.out]
      have HO := Lib.hid hown9
      clear hown9 hg1 hk1 c0 c1
      go_wp2
      go_roundw
      case rel => exact ⟨m, z, out ++ [y.id], HZ.out, rfl, by rw [List.length_append, List.map_append, HN.out]; exact HO.out, HR.out, hb9⟩
      case measure => first | (simp [intOf]; done) | (simp [intOf]; omega)
theorem rline_all (w : World) (A : Option Addr) (l : List HC) (c : Nat) (h : AtC w A l) (hh : HistIn l) (x : ByteArray) :
    Calls Try.prog 28 #[.slice A l.length c, .string x] w (LinePost w (lineG l x)) := by
  unfold lineG
  by_cases e : posN (idsOf l) x < l.length
  · rw [if_pos e]
    exact rline_some w A l c h hh.hist x _ rfl e hh.len
  · rw [if_neg e]
    refine (rline_none w A l c h x (posI_no (by rw [idsOf_len]; exact e))).mono ?_
    rintro e w' ⟨rfl, h3⟩
    exact ⟨none, 0, rfl, ⟨Nat.zero_le _, fun h9 => absurd h9 (Nat.lt_irrefl 0)⟩, h3⟩
end Go.Proofs.Ytfhgnolfhiffbaa
