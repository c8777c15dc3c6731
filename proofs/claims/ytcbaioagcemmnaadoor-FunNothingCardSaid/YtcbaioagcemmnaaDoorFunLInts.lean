/- law8.ints; parts of a list of values. Written by funlintsgen.py. -/
import Derived.Test.YtcbaioagcemmnaaDoorFunMore
namespace Go.Proofs.YtcbaioagcemmnaaDoor
open Go.RowKit Go.Maps
def ivals (l : List Int) : List V3 := l.map fun x => ((1 : Int), x, (⟨#[]⟩ : ByteArray))
theorem ivals_len (l : List Int) : (ivals l).length = l.length := by simp [ivals]
theorem ivals_snoc {l : List Int} {k : Nat} {x : Int} (h : l[k]? = some x) : ivals (l.take (k + 1)) = ivals (l.take k) ++ [(1, x, ⟨#[]⟩)] := by
  obtain ⟨hk, rfl⟩ := List.getElem?_eq_some_iff.1 h
  unfold ivals
  rw [List.take_succ_eq_append_getElem hk, List.map_append]
  rfl
theorem ivals_one {l : List Int} : ∀ v ∈ ivals l, v.1 = 1 := by
  intro v hv
  obtain ⟨x, _, rfl⟩ := List.mem_map.1 hv
  rfl
theorem ivals_get {l : List Int} {k : Nat} {x : Int} (h : l[k]? = some x) : (ivals l)[k]? = some (1, x, ⟨#[]⟩) := by
  unfold ivals
  rw [List.getElem?_map, h]
  rfl
theorem filter_ivals (l : List Int) : (ivals l).filter (fun v => v.1 == 1) = ivals l :=
  List.filter_eq_self.2 fun v hv => by rw [ivals_one v hv]; rfl
theorem AtV.take {w : World} {A : Option Addr} {l : List V3} (h : AtV w A l) (k : Nat) : AtV w A (l.take k) := by
  refine ⟨by have := h.1; rw [List.length_take]; omega, fun hn => ?_⟩
  obtain ⟨b, o, e, hc⟩ := h.2 (by rw [List.length_take] at hn; omega)
  refine ⟨b, o, e, fun i x hx => hc i x ?_⟩
  rw [List.getElem?_take] at hx
  split at hx
  · exact hx
  · cases hx
theorem AtV.drop {w : World} {b o : Nat} {l : List V3} (h : AtV w (some ⟨b, o, none⟩) l) (k : Nat) : AtV w (some ⟨b, o + k * 3, none⟩) (l.drop k) := by
  refine ⟨by have := h.1; rw [List.length_drop]; omega, fun hn => ?_⟩
  obtain ⟨b', o', e, hc⟩ := h.2 (by rw [List.length_drop] at hn; omega)
  injection e with e
  injection e with e1 e2
  subst e1 e2
  refine ⟨b, o + k * 3, rfl, fun i x hx => ?_⟩
  rw [List.getElem?_drop] at hx
  have := hc (k + i) x hx
  rw [show o + k * 3 + i * 3 = o + (k + i) * 3 by omega]
  exact this
theorem AtV.nil (w : World) (A : Option Addr) : AtV w A [] := ⟨by simp, fun h => absurd h (by simp)⟩
set_option maxRecDepth 100000 in
set_option maxHeartbeats 4000000 in
theorem lints_any (w : World) (A : Option Addr) (l : List Int) (c : Nat) (hl : At1 (Value.int .i32) w A l) (hw : ∀ n ∈ l, (Lit.int .i32 n).wf = true) (hln : l.length ≤ 1000) :
    Calls Tryd.prog 10 #[.slice A l.length c] w fun e w' => ∃ B cap, e = .returned (.slice B l.length cap) ∧ Below w.heap.size w w' ∧ w'.ownsRow w.heap.size 31 3 (.slice B l.length cap) l.length (cells3 (ivals l)) := by
  have HW := Lib.hid hw
  clear hw
  go_enter Tryd.func10, Tryd.ntmps10
  go_wp2_with fail
  go_loopw [3, 4] (fun v u wr => ∃ k : Nat, k ≤ l.length ∧ u = .int .i64 k ∧ wr.ownsRow w.heap.size 31 3 v (ivals (l.take k)).length (cells3 (ivals (l.take k))) ∧ Below w.heap.size w wr) (fun _ u _ => l.length - (intOf u).toNat)
  case atStart => exact ⟨0, Nat.zero_le _, rfl, World.ownsRow_nil _ _ _ _, Below.refl _ _⟩
  case round =>
    obtain ⟨k, hk, rfl, hown, hbr⟩ := hrel
    obtain ⟨B, cap, rfl, _, _⟩ := own_form hown
    have hsr := hbr.size
    by_cases hlt : k < l.length
    · have hi1 := Lib.hid (show k + 1 ≤ l.length by omega)
      have hi2 := Lib.hid (show l.length - (k + 1) < l.length - k by omega)
      obtain ⟨ad, hAe, hcell⟩ := hl.2 (by omega)
      obtain ⟨x, hx⟩ : ∃ x, l[k]? = some x := ⟨_, List.getElem?_eq_getElem hlt⟩
      have hc := hcell k x hx
      have hcr := (hbr.cell (World.block_lt_of_cell? w _ hc)).trans hc
      have hwx := HW.out x (List.mem_of_getElem? hx)
      have hxr : -2147483648 ≤ x ∧ x ≤ 2147483647 := by simpa [Lit.wf, IntKind.min, IntKind.max, IntKind.signed, IntKind.bits] using hwx
      have wx : IntKind.i64.wrap x = x := by simp [IntKind.wrap, IntKind.signed, IntKind.bits]; omega
      have HSN := Lib.hid (ivals_snoc hx)
      have hlen : (ivals (l.take k)).length ≤ 1000 := by rw [ivals_len, List.length_take]; omega
      obtain ⟨L, hL⟩ : ∃ L, ivals (l.take k) = L := ⟨_, rfl⟩
      rw [hL] at hown HSN hlen ⊢
      subst hAe
      clear hcell hc hwx hxr hL hx
      go_wp2_with (at_builtin; refine wpList_appN (cs := #[.int .i64 1, .int .i64 x, .string ⟨#[]⟩]) eVal rfl rfl hown rfl rfl rfl rfl (by intro u hu; simp at hu; rcases hu with rfl | rfl | rfl <;> rfl) (by omega) hsr ?_; intro v1 w9 hown9 hg1 hk1; obtain ⟨A9, c9, rfl, _⟩ := own_form hown9)
      go_roundw
      case rel =>
        refine ⟨k + 1, hi1.out, by go_num, ?_, below_grown hbr hown hg1 (Nat.le_refl _) hsr⟩
        rw [HSN.out, List.length_append, cells3_snoc]
        exact hown9
      case measure => first | (simp [intOf]; done) | exact hi2.out | (have := hi2.out; simp [intOf]; omega)
    · have hie : k = l.length := by omega
      subst hie
      have e9 := ivals_len l
      rw [List.take_length, e9] at hown ⊢
      clear e9
      have HO := Lib.hid hown
      clear hown
      go_wp2
      refine bodyPost_ret (v := .slice B l.length cap) ?_ rfl ⟨B, cap, rfl, hbr, HO.out⟩
      simp [results, Tryd.f10, go_sem]
end Go.Proofs.YtcbaioagcemmnaaDoor
