/- Sheets in memory; the walk of align.keys. -/
import Derived.Test.YthoccmgfpjfkoaaAlignKey
namespace Go.Proofs.Ythoccmgfpjfkoaa
open Go.RowKit

/-- a row of a sheet: where it lies, and its texts -/
structure SRow where
  A : Option Addr
  l : List ByteArray
  c : Nat
def vRow (r : SRow) : Value := .slice r.A r.l.length r.c
/-- rows in memory -/
structure Grid (w : World) (A : Option Addr) (rs : List SRow) : Prop where
  top : At1 vRow w A rs
  row : ∀ r ∈ rs, At1 vStr w r.A r.l
theorem Grid.below {w w' : World} {A : Option Addr} {rs : List SRow} (h : Grid w A rs) (hb : Below w.heap.size w w') : Grid w' A rs := ⟨h.top.below hb, fun r hr => (h.row r hr).below hb⟩
/-- sizes -/
def Mild (rs : List SRow) : Prop := rs.length ≤ 1000 ∧ ∀ r ∈ rs, r.l.length ≤ 1000 ∧ ∀ s ∈ r.l, s.size ≤ 1048576
def rowKeys (rs : List SRow) : List ByteArray := rs.map fun r => keyOf r.l
theorem rowKeys_len (rs : List SRow) : (rowKeys rs).length = rs.length := List.length_map _

theorem map_snoc {α β : Type} (f : α → β) {l : List α} {k : Nat} (h : k < l.length) : (l.map f).take (k + 1) = (l.map f).take k ++ [f l[k]] := by
  rw [take_snoc (by simpa using h)]; simp

set_option maxRecDepth 100000 in
set_option maxHeartbeats 400000 in
theorem keys_any (w : World) (A : Option Addr) (rs : List SRow) (c : Nat) (name : ByteArray) (cols : Int) (hA : Grid w A rs) (hm : Mild rs) :
    Calls Try.prog 30 #[.agg #[.string name, .int .i64 cols, .slice A rs.length c], .func (.func 14) #[] #[]] w fun e w' => ∃ v, e = .returned v ∧ w'.ownsRow w.heap.size 9 1 v (rowKeys rs).length ((rowKeys rs).map vStr) ∧ Below w.heap.size w w' := by
  have HM := Lib.hid hm.2
  have hm1 := hm.1
  have HA := Lib.hid hA
  clear hm hA
  go_enter Try.func30, Try.ntmps30
  go_wp2
  go_loopw [5, 7, 11] (fun v _ i wr => ∃ k : Nat, k ≤ rs.length ∧ i = .int .i64 k ∧ wr.ownsRow w.heap.size 9 1 v ((rowKeys rs).take k).length (((rowKeys rs).take k).map vStr) ∧ Below w.heap.size w wr) (fun _ _ i _ => rs.length - (intOf i).toNat)
  case atStart => exact ⟨0, Nat.zero_le _, rfl, World.ownsRow_nil _ _ _ _, (Below.refl _ _).alloc (Nat.le_refl _) _⟩
  case round =>
    obtain ⟨k, hk, rfl, hown, hb⟩ := hrel
    have hsz := hb.size
    by_cases hlt : k < rs.length
    · have hG := HA.out.below hb
      obtain ⟨ad, rfl, hc⟩ := hG.top.at_ hlt
      have HR := Lib.hid (hG.row rs[k] (List.getElem_mem _))
      have HS := Lib.hid (HM.out rs[k] (List.getElem_mem _))
      have ht := Lib.hid (map_snoc (fun r : SRow => keyOf r.l) hlt)
      have hlen : ((rowKeys rs).take k).length ≤ 1000 := by rw [List.length_take, rowKeys_len]; omega
      clear hG
      generalize rs[k] = r at hc ht HR HS
      obtain ⟨rA, rl, rc⟩ := r
      dsimp only [vRow] at hc HR HS
      go_wp2_with fail
      refine (key_any wr rA rl rc HR.out HS.out.1 HS.out.2).mono ?_
      rintro e w2 ⟨rfl, hb2⟩
      have hown2 := own_below hown hb2
      have hb3 := hb.trans (hb2.mono hsz)
      have hsz3 := hb3.size
      clear hown hb2 hb
      go_wp2_with (at_builtin; refine wpList_app1 eStr rfl rfl hown2 rfl rfl (by first | rfl | simp) rfl (by omega) (by first | omega | (simp; omega)) ?_; intro v1 w1 hown1 hg1 hk1)
      go_roundw
      case rel => exact ⟨k + 1, by omega, by go_num, by unfold rowKeys; rw [ht.out, List.map_append, List.length_append]; exact hown1, below_grown hb3 hown2 hg1 (Nat.le_refl _) hsz3⟩
      case measure => first | (simp [intOf]; done) | (simp [intOf]; omega)
    · obtain rfl : k = rs.length := by omega
      rw [List.take_of_length_le (by rw [rowKeys_len]; omega)] at hown
      go_wp2
      go_ret
      exact ⟨_, rfl, hown, hb⟩
end Go.Proofs.Ythoccmgfpjfkoaa
