/- past.Line: by first parents. -/
import Derived.Test.YtfhgnolfhiffbaaPFind
namespace Go.Proofs.Ytfhgnolfhiffbaa
open Go.RowKit
/-- a history: each Id once, each parent ahead of its child -/
structure Hist (l : List HC) : Prop where
  once : ∀ i c, l[i]? = some c → posN (idsOf l) c.id = i
  ahead : ∀ i c, l[i]? = some c → ∀ p ∈ c.ps, posN (idsOf l) p < i
/-- the line from a place on -/
def lineF (l : List HC) : Nat → Nat → List ByteArray
  | 0, _ => []
  | f + 1, k => match l[k]? with
    | none => []
    | some c => c.id :: (match c.ps with
      | [] => []
      | p :: _ => lineF l f (posN (idsOf l) p))
theorem lineF_len (l : List HC) (f k : Nat) : (lineF l f k).length ≤ f := by
  induction f generalizing k with
  | zero => simp [lineF]
  | succ f ih =>
    rw [lineF]
    split
    · simp
    · rename_i c _
      cases c.ps with
      | nil => simp
      | cons p r => simp only [List.length_cons]; have := ih (posN (idsOf l) p); omega
theorem lineF_fuel {l : List HC} (h : Hist l) : ∀ (k f g : Nat), k < f → k < g → lineF l f k = lineF l g k := by
  intro k
  induction k using Nat.strongRecOn with
  | ind k ih =>
    intro f g hf hg
    obtain ⟨f, rfl⟩ : ∃ f', f = f' + 1 := ⟨f - 1, by omega⟩
    obtain ⟨g, rfl⟩ : ∃ g', g = g' + 1 := ⟨g - 1, by omega⟩
    rw [lineF, lineF]
    cases hc : l[k]? with
    | none => rfl
    | some c =>
      simp only
      congr 1
      cases hp : c.ps with
      | nil => rfl
      | cons p r =>
        have := h.ahead k c hc p (by rw [hp]; simp)
        exact ih _ this _ _ (by omega) (by omega)
theorem eStr : EInfo Try.prog 26 9 (.string ⟨#[]⟩) 1 16 := ⟨Try.underlying26, by kernel_rfl, rfl, by decide, by decide⟩
theorem lineF_none {l : List HC} {f k : Nat} {c : HC} (hc : l[k]? = some c) (hp : c.ps = []) : lineF l (f + 1) k = [c.id] := by
  rw [lineF, hc]
  simp only [hp]
theorem lineF_some {l : List HC} {f k : Nat} {c : HC} {p : ByteArray} {r : List ByteArray} (hc : l[k]? = some c) (hp : c.ps = p :: r) : lineF l (f + 1) k = c.id :: lineF l f (posN (idsOf l) p) := by
  rw [lineF, hc]
  simp only [hp]
theorem posN_id {l : List HC} {x : ByteArray} (h : posN (idsOf l) x < l.length) : ∃ c, l[posN (idsOf l) x]? = some c ∧ c.id = x := by
  refine ⟨_, List.getElem?_eq_getElem h, ?_⟩
  have hl : posN (idsOf l) x < (idsOf l).length := by rw [idsOf_len]; exact h
  have h1 := List.findIdx_getElem (w := hl)
  simp only [decide_eq_true_eq] at h1
  have e : (idsOf l)[posN (idsOf l) x]'hl = (l[posN (idsOf l) x]'h).id := by simp [idsOf]
  exact e.symm.trans h1
def LinePost (w : World) (R : List ByteArray) (e : Ending) (w' : World) : Prop := ∃ B cap, e = .returned (.slice B R.length cap) ∧ At1 vStr w' B R ∧ Below w.heap.size w w'
set_option maxRecDepth 100000 in
set_option maxHeartbeats 1000000 in
theorem line_any (w : World) (A : Option Addr) (l : List HC) (c : Nat) (h : AtC w A l) (hh : Hist l) (x : ByteArray) (k0 : Nat) (hk0 : posN (idsOf l) x = k0) (hkl : k0 < l.length) (hL : l.length ≤ 1000) :
    Calls Try.prog 14 #[.slice A l.length c, .string x] w (LinePost w (lineF l (k0 + 1) k0)) := by
  have hp0 : posI (idsOf l) x = (k0 : Int) := by unfold posI; rw [hk0, if_pos (by rw [idsOf_len]; exact hkl)]
  obtain ⟨R, hR⟩ : ∃ R, lineF l (k0 + 1) k0 = R := ⟨_, rfl⟩
  have hRl : R.length ≤ 1001 := by rw [← hR]; have := lineF_len l (k0 + 1) k0; omega
  rw [hR]
  go_enter Try.func14, Try.ntmps14
  go_wp2_with fail
  refine (find_any _ A l c h x).mono ?_
  rintro e w1 ⟨rfl, hb1⟩
  rw [hp0]
  go_wp2_with fail
  go_loopw [1, 5, 6] (fun s v u wr => ∃ (k : Nat) (y : HC) (out : List ByteArray), l[k]? = some y ∧ s = .string y.id ∧ u = .int .i64 k ∧ wr.ownsRow w.heap.size 9 1 v out.length (out.map vStr) ∧ Hid (out ++ lineF l (k + 1) k = R) ∧ Below w.heap.size w wr) (fun _ _ u _ => (intOf u).toNat)
  case atStart =>
    obtain ⟨y, hy, rfl⟩ := posN_id (x := x) (by rw [hk0]; exact hkl)
    rw [hk0] at hy
    exact ⟨k0, y, [], hy, rfl, rfl, World.ownsRow_nil _ _ _ _, by simpa [Hid] using hR, hb1⟩
  case round =>
    obtain ⟨k, y, out, hy, rfl, rfl, hown, hr, hb⟩ := hrel
    obtain ⟨B, cap, rfl, _, _⟩ := own_form hown
    have hsr := hb.size
    have hkl2 : k < l.length := (List.getElem?_eq_some_iff.1 hy).1
    have hol : out.length ≤ 1001 := by have := congrArg List.length hr.out; rw [List.length_append] at this; omega
    have HBK := Lib.hid (fun W (hW : Below w.heap.size w W) => (h.below hW))
    have hym := List.mem_of_getElem? hy
    obtain ⟨n, hn⟩ : ∃ n, out.length = n := ⟨_, rfl⟩
    rw [hn] at hown hol ⊢
    have HN := Lib.hid hn
    clear hn hb1
    cases hps : y.ps with
    | nil =>
      have HR := Lib.hid (show out ++ [y.id] = R by rw [← hr.out, lineF_none hy hps])
      go_wp2_with (at_builtin; refine wpList_app1 eStr rfl rfl hown rfl rfl rfl rfl (by omega) hsr ?_; intro v1 w9 hown9 hg1 hk1; obtain ⟨A9, c9, rfl, _⟩ := own_form hown9; have hb9 := below_grown hb hown hg1 (Nat.le_refl _) hsr; obtain ⟨bb, oo, hAe, hcc⟩ := (HBK.out _ hb9).2.2 (by omega); obtain ⟨c0, c1, _, _⟩ := hcc k y hy; rw [hps] at c1; subst hAe; clear hcc)
      have hRn : R.length = n + 1 := by rw [← HR.out, List.length_append, HN.out]; rfl
      have hown10 : w9.ownsRow w.heap.size 9 1 (.slice A9 (n + 1) c9) (n + 1) (R.map vStr) := by rw [← HR.out, List.map_append]; exact hown9
      refine bodyPost_ret (v := .slice A9 (n + 1) c9) (by simp [results, Try.f14, go_sem]) rfl ⟨A9, c9, by rw [hRn], At1.of_own (n := n + 1) hown10 (by omega), hb9⟩
    | cons p r =>
      have hpk := hh.ahead k y hy p (by rw [hps]; simp)
      have hpl : posN (idsOf l) p < l.length := by omega
      obtain ⟨z, hz, hzp⟩ := posN_id hpl
      have HR := Lib.hid (show (out ++ [y.id]) ++ lineF l (posN (idsOf l) p + 1) (posN (idsOf l) p) = R by
        rw [← hr.out, lineF_some hy hps, List.append_assoc]
        show out ++ (y.id :: lineF l (posN (idsOf l) p + 1) (posN (idsOf l) p)) = _
        rw [lineF_fuel hh _ _ k (Nat.lt_succ_self _) hpk])
      have hpi : posI (idsOf l) p = (posN (idsOf l) p : Int) := by unfold posI; rw [if_pos (by rw [idsOf_len]; exact hpl)]
      obtain ⟨m, hm⟩ : ∃ m, posN (idsOf l) p = m := ⟨_, rfl⟩
      rw [hm] at HR hz hpi hpk
      have HP := Lib.hid hpi
      have HZ := Lib.hid hz
      subst hzp
      clear hpi hpl hm hr hz
      go_wp2_with (at_builtin; refine wpList_app1 eStr rfl rfl hown rfl rfl rfl rfl (by omega) hsr ?_; intro v1 w9 hown9 hg1 hk1; obtain ⟨A9, c9, rfl, _⟩ := own_form hown9; have hb9 := below_grown hb hown hg1 (Nat.le_refl _) hsr; obtain ⟨bb, oo, hAe, hcc⟩ := (HBK.out _ hb9).2.2 (by omega); obtain ⟨c0, c1, _, _⟩ := hcc k y hy; rw [hps] at c1; subst hAe; clear hcc; have hps2 := (HBK.out _ hb9).2.1 y hym; rw [hps] at hps2; obtain ⟨pa, hpa, hpc⟩ := hps2.2 (by simp); have hp0 := hpc 0 z.id rfl; rw [add_zero_] at hp0; have hp1 := hpc 0 z.id rfl; clear hps2 hpc)
      refine (find_any w9 _ l c (HBK.out _ hb9) z.id).mono ?_
      rintro e w10 ⟨rfl, hb10⟩
      rw [HP.out]
      have hown10 := own_below hown9 hb10
      have hb11 := hb9.trans (hb10.mono hb9.size)
      have HO := Lib.hid hown10
      clear hown9 hown10 hg1 hk1 c0 c1 hb10 hb9
      go_wp2
      go_roundw
      case rel => exact ⟨m, z, out ++ [y.id], HZ.out, rfl, rfl, by rw [List.length_append, List.map_append, HN.out]; exact HO.out, HR.out, hb11⟩
      case measure => first | (simp [intOf]; done) | (simp [intOf]; omega)
end Go.Proofs.Ytfhgnolfhiffbaa
