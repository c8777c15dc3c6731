/- past.Depth. -/
import Derived.Test.YtfhgnolfhiffbaaPBase
namespace Go.Proofs.Ytfhgnolfhiffbaa
open Go.RowKit Go.Maps
def depI (l : List HC) (x : ByteArray) : Int := (depF l x).getD (-1)
theorem get_asV2 (f : ByteArray → Option Int) (x : ByteArray) : getV (asV f) x (.int .i64 0) true = (match f x with | some d => .tuple #[.int .i64 d, .bool true] | none => .tuple #[.int .i64 0, .bool false]) := by
  unfold getV asV
  cases f x <;> rfl
set_option maxRecDepth 100000 in
theorem depth_any (w : World) (A : Option Addr) (l : List HC) (c : Nat) (h : AtC w A l) (hh : HistIn l) (x : ByteArray) (hx : x.size ≤ maxLen) :
    Calls Try.prog 13 #[.slice A l.length c, .string x] w fun e w' => e = .returned (.int .i64 (depI l x)) ∧ Below w.heap.size w w' := by
  go_enter Try.func13, Try.ntmps13
  go_wp2_with fail
  refine (depths_any w A l c h hh.small hh.len).mono ?_
  rintro e w1 ⟨b, n, D, rfl, hM, hn, hb, hbw⟩
  have HG := Lib.hid (get_asV2 (depF l) x)
  cases hf : depF l x with
  | none =>
    rw [hf] at HG
    go_wp2_with (with_reducible refine upon_getF Try.underlying40 (zInt _) hM hx ?_; rw [HG.out])
    go_ret
    exact ⟨by unfold depI; rw [hf]; rfl, hbw⟩
  | some d =>
    rw [hf] at HG
    go_wp2_with (with_reducible refine upon_getF Try.underlying40 (zInt _) hM hx ?_; rw [HG.out])
    go_ret
    exact ⟨by unfold depI; rw [hf]; rfl, hbw⟩
theorem dep_depI {l : List HC} {x : ByteArray} (h : x ∈ idsOf l) (hh : Hist l) : depI l x = dep l x ∧ 0 ≤ dep l x ∧ dep l x ≤ l.length := by
  obtain ⟨c, hc, rfl⟩ := posN_id (mem_ids.1 h)
  obtain ⟨i, hi⟩ : ∃ i, posN (idsOf l) c.id = i := ⟨_, rfl⟩
  rw [hi] at hc
  have hil := (List.getElem?_eq_some_iff.1 hc).1
  have e1 : depF l c.id = some (dN (depF (l.take i)) c.ps) := by
    have := depF_other hh (s := c.id) l.length (i + 1) (by omega) (by omega) (Nat.le_refl _)
    rw [List.take_length] at this
    rw [this, depF_snoc hc]
    unfold depStep
    rw [if_pos rfl]
  have hle := depF_le l l.length c.id _ (by rw [List.take_length]; exact e1)
  unfold depI dep
  rw [e1]
  exact ⟨rfl, hle⟩
end Go.Proofs.Ytfhgnolfhiffbaa
