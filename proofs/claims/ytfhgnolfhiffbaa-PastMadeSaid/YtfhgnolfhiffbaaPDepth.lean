/- past.depths: how deep each commit stands. -/
import Derived.Test.YtfhgnolfhiffbaaPMap
import Derived.Test.YtfhgnolfhiffbaaPLine
namespace Go.Proofs.Ytfhgnolfhiffbaa
open Go.RowKit Go.Maps
/-- one more than the deepest of these -/
def dN (f : ByteArray → Option Int) (ps : List ByteArray) : Int := ps.foldl (fun n p => max n ((f p).getD 0 + 1)) 0
def depStep (f : ByteArray → Option Int) (c : HC) : ByteArray → Option Int := fun x => if x = c.id then some (dN f c.ps) else f x
def depF (l : List HC) : ByteArray → Option Int := l.foldl depStep (fun _ => none)
theorem depF_snoc {l : List HC} {k : Nat} {y : HC} (h : l[k]? = some y) : depF (l.take (k + 1)) = depStep (depF (l.take k)) y := by
  obtain ⟨hk, rfl⟩ := List.getElem?_eq_some_iff.1 h
  unfold depF
  rw [List.take_succ_eq_append_getElem hk, List.foldl_append]
  rfl
theorem dN_snoc {f : ByteArray → Option Int} {ps : List ByteArray} {j : Nat} {p : ByteArray} (h : ps[j]? = some p) : dN f (ps.take (j + 1)) = max (dN f (ps.take j)) ((f p).getD 0 + 1) := by
  obtain ⟨hk, rfl⟩ := List.getElem?_eq_some_iff.1 h
  unfold dN
  rw [List.take_succ_eq_append_getElem hk, List.foldl_append]
  rfl
theorem dN_le {f : ByteArray → Option Int} {B : Int} (hB : 0 ≤ B) (h : ∀ x d, f x = some d → 0 ≤ d ∧ d ≤ B) (ps : List ByteArray) : 0 ≤ dN f ps ∧ dN f ps ≤ B + 1 := by
  unfold dN
  have hg : ∀ (n : Int), 0 ≤ n ∧ n ≤ B + 1 → 0 ≤ ps.foldl (fun n p => max n ((f p).getD 0 + 1)) n ∧ ps.foldl (fun n p => max n ((f p).getD 0 + 1)) n ≤ B + 1 := by
    induction ps with
    | nil => intro n hn; exact hn
    | cons p r ih =>
      intro n hn
      simp only [List.foldl_cons]
      refine ih _ ?_
      cases hf : f p with
      | none => simp; omega
      | some d => have := h p d hf; simp; omega
  exact hg 0 (by omega)
theorem depF_le (l : List HC) : ∀ k x d, depF (l.take k) x = some d → 0 ≤ d ∧ d ≤ (k : Int) := by
  intro k
  induction k with
  | zero => intro x d h; simp [depF] at h
  | succ k ih =>
    intro x d h
    cases hy : l[k]? with
    | none =>
      have e : l.take (k + 1) = l.take k := by
        have := List.getElem?_eq_none_iff.1 hy
        rw [List.take_of_length_le (by omega), List.take_of_length_le (by omega)]
      rw [e] at h
      have := ih x d h
      omega
    | some y =>
      rw [depF_snoc hy] at h
      unfold depStep at h
      split at h
      · injection h with h
        have := dN_le (f := depF (l.take k)) (B := k) (by omega) ih y.ps
        omega
      · have := ih x d h
        omega
theorem four {w1 : World} {g : Nat} {a b c d : Value} {t : TypeId} (z : w1.heap[g]? = some (.cells #[a, b, c, d] t (0, 0))) : w1.cell? ⟨g, 0, none⟩ = some a ∧ w1.cell? ⟨g, 1, none⟩ = some b ∧ w1.cell? ⟨g, 2, none⟩ = some c ∧ w1.cell? ⟨g, 3, none⟩ = some d := by simp [World.cell?, z]
theorem below_mapU {B b : Nat} {w0 w w' : World} (hb : Below B w0 w) (h : w.grownBy w' (some b)) (hB : B ≤ b) (hs : B ≤ w.heap.size) : Below B w0 w' := hb.grown h hs fun k hk => by injection hk with hk; omega
theorem zInt (w : World) : (zeroValue 3).run Try.prog w = .ok (.int .i64 0) w := by kernel_rfl
/-- a map of texts to numbers -/
def asV (f : ByteArray → Option Int) : ByteArray → Option Value := fun x => (f x).map (fun d => .int .i64 d)
theorem asV_set (f : ByteArray → Option Int) (c : HC) : setF (asV f) c.id (.int .i64 (dN f c.ps)) = asV (depStep f c) := by
  funext x
  unfold setF asV depStep
  split <;> simp [*]
theorem get_asV (f : ByteArray → Option Int) (x : ByteArray) : getV (asV f) x (.int .i64 0) false = .int .i64 ((f x).getD 0) := by
  unfold getV asV
  cases f x <;> rfl
def DepPost (w : World) (l : List HC) (e : Ending) (w' : World) : Prop := ∃ b n D, e = .returned (.map (some b)) ∧ MapF w' b n D (asV (depF l)) ∧ n ≤ 1000 ∧ w.heap.size ≤ b ∧ Below w.heap.size w w'
set_option maxRecDepth 100000 in
set_option maxHeartbeats 2000000 in
theorem depths_any (w : World) (A : Option Addr) (l : List HC) (c : Nat) (h : AtC w A l) (hs : ∀ y ∈ l, y.id.size ≤ maxLen ∧ ∀ p ∈ y.ps, p.size ≤ maxLen) (hL : l.length ≤ 1000) :
    Calls Try.prog 19 #[.slice A l.length c] w (DepPost w l) := by
  have hmm := @run_makeMap Try.prog
  have HSZ := Lib.hid hs
  have hb0 : Below w.heap.size w (w.alloc (.map #[] 0)) := (Below.refl _ _).alloc (Nat.le_refl _) _
  have hM0 := MapF.made w
  obtain ⟨b, hbe⟩ : ∃ b, w.heap.size = b := ⟨_, rfl⟩
  rw [hbe] at hM0
  have HA := Lib.hid (fun W (hW : Below w.heap.size w W) => h.below hW)
  clear hs
  go_enter Try.func19, Try.ntmps19
  go_wp2_with fail
  obtain ⟨w0, hw0⟩ : ∃ w0, w0 = w.alloc (.map #[] 0) := ⟨_, rfl⟩
  rw [← hw0] at hb0 hM0 ⊢
  (try rw [hbe])
  have hwb : w.heap.size ≤ b := by omega
  clear hw0 hbe hmm
  have hmax := @run_max2 Try.prog
  go_loopw [12] (fun u wr => ∃ (k : Nat) (D : DataW Value), k ≤ l.length ∧ u = .int .i64 k ∧ MapF wr b k D (asV (depF (l.take k))) ∧ Below w.heap.size w wr) (fun u _ => l.length - (intOf u).toNat)
  case atStart => exact ⟨0, _, Nat.zero_le _, rfl, hM0, hb0⟩
  case round =>
    obtain ⟨k, D, hk, rfl, hM, hb⟩ := hrel
    have hsr := hb.size
    by_cases hlt : k < l.length
    · obtain ⟨bb, oo, hAe, hcc⟩ := (HA.out _ hb).2.2 (by omega)
      obtain ⟨y, hy⟩ : ∃ y, l[k]? = some y := ⟨_, List.getElem?_eq_getElem hlt⟩
      obtain ⟨c0, c1, c2, c3⟩ := hcc k y hy
      have hym := List.mem_of_getElem? hy
      have hP := (HA.out _ hb).2.1 y hym
      have hys := HSZ.out y hym
      have HSN := Lib.hid (depF_snoc hy)
      have HLE := Lib.hid (depF_le l k)
      obtain ⟨f, hf⟩ : ∃ f, depF (l.take k) = f := ⟨_, rfl⟩
      rw [hf] at hM HSN HLE
      subst hAe
      have hi1 := Lib.hid (show k + 1 ≤ l.length by omega)
      have hi2 := Lib.hid (show l.length - (k + 1) < l.length - k by omega)
      clear hcc hy hf
      have hbx : Below wr.heap.size wr (wr.alloc (.cells #[.string y.id, .slice y.A y.ps.length y.cap, .slice y.Z y.zn y.zc, .string y.note] 31)) := (Below.refl _ _).alloc (Nat.le_refl _) _
      have hX := heap_alloc_new wr (.cells #[.string y.id, .slice y.A y.ps.length y.cap, .slice y.Z y.zn y.zc, .string y.note] 31)
      have hM1 := hM.below hbx
      have hb1 := hb.trans (hbx.mono hsr)
      have hP1 := hP.below hbx
      have hpl := hP1.1
      obtain ⟨x0, x1, _, _⟩ := four hX
      clear hM hb hP hbx
      go_wp2_with fail
      obtain ⟨X, hXe⟩ : ∃ X, wr.heap.size = X := ⟨_, rfl⟩
      obtain ⟨we, hwe⟩ : ∃ we, we = wr.alloc (.cells #[.string y.id, .slice y.A y.ps.length y.cap, .slice y.Z y.zn y.zc, .string y.note] 31) := ⟨_, rfl⟩
      rw [← hwe] at hX hM1 hb1 hP1 ⊢
      rw [hXe] at hX ⊢
      clear hwe hXe x0 x1 c0 c1 c2 c3
      go_loopw [6, 19] (fun n u wi => ∃ j : Nat, j ≤ y.ps.length ∧ u = .int .i64 j ∧ n = .int .i64 (dN f (y.ps.take j)) ∧ wi = we) (fun _ u _ => y.ps.length - (intOf u).toNat)
      case atStart => exact ⟨0, Nat.zero_le _, rfl, rfl, rfl⟩
      case round =>
        generalize wr = wi at *
        obtain ⟨j, hj, rfl, rfl, rfl⟩ := hrel
        have hnb := dN_le (f := f) (B := k) (by omega) HLE.out (y.ps.take j)
        by_cases hlt3 : j < y.ps.length
        · have hj1 := Lib.hid (show j + 1 ≤ y.ps.length by omega)
          have hj2 := Lib.hid (show y.ps.length - (j + 1) < y.ps.length - j by omega)
          obtain ⟨pa, hpa, hpc⟩ := hP1.2 (by omega)
          obtain ⟨p, hp⟩ : ∃ p, y.ps[j]? = some p := ⟨_, List.getElem?_eq_getElem hlt3⟩
          have hp0 : wi.cell? (pa.add j) = some (.string p) := hpc j p hp
          have hps := hys.2 p (List.mem_of_getElem? hp)
          have HD := Lib.hid (dN_snoc (f := f) hp)
          have hv : 0 ≤ (f p).getD 0 ∧ (f p).getD 0 ≤ k := by
            cases hfp : f p with
            | none => simp
            | some d => have := HLE.out p d hfp; simpa using this
          obtain ⟨d, hd⟩ : ∃ d, (f p).getD 0 = d := ⟨_, rfl⟩
          obtain ⟨n, hn⟩ : ∃ n, dN f (y.ps.take j) = n := ⟨_, rfl⟩
          rw [hd] at hv HD
          rw [hn] at hnb HD ⊢
          have HG := Lib.hid (get_asV f p)
          rw [hd] at HG
          have HY := Lib.hid (show y.A = some pa from hpa)
          clear hpc hp hd hn hpa
          have hYA := HY.out
          rw [hYA] at hX ⊢
          clear hYA
          go_wp2_with (with_reducible refine upon_getF Try.underlying40 (zInt _) hM1 hps ?_; rw [HG.out])
          go_roundw
          case rel => exact ⟨j + 1, hj1.out, by go_num, by rw [HD.out], by first | rfl | trivial⟩
          case measure => first | (simp [intOf]; done) | exact hj2.out | (have := hj2.out; simp [intOf]; omega)
        · have hje : j = y.ps.length := by omega
          subst hje
          rw [List.take_length] at hnb ⊢
          have hbl := hM1.lt
          have HS := Lib.hid (asV_set f y)
          have hyid := hys.1
          obtain ⟨x0, _, _, _⟩ := four hX
          obtain ⟨n, hn⟩ : ∃ n, dN f y.ps = n := ⟨_, rfl⟩
          rw [hn] at hnb HS ⊢
          clear hn
          go_wp2_with (with_reducible refine upon_putF Try.underlying40 hM1 (by unfold maxLen; omega) hyid ?_; intro w7 D7 hM7 hg7)
          have hb7 := below_mapU hb1 hg7 hwb hb1.size
          rw [HS.out, ← HSN.out] at hM7
          go_roundw
          case rel => exact ⟨k + 1, D7, hi1.out, by go_num, hM7, hb7⟩
          case measure => first | (simp [intOf]; done) | exact hi2.out | (have := hi2.out; simp [intOf]; omega)
    · have hie : k = l.length := by omega
      subst hie
      rw [List.take_length] at hM
      have HM := Lib.hid hM
      clear hM
      go_wp2
      refine bodyPost_ret (v := .map (some b)) (by simp [results, Try.f19, go_sem]) rfl ⟨b, _, _, rfl, HM.out, hL, hwb, hb⟩
end Go.Proofs.Ytfhgnolfhiffbaa
