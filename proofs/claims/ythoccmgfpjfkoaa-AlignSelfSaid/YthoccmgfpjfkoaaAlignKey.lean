/- The walk of align.Key. -/
import Derived.Test.YthoccmgfpjfkoaaKeyText
import Derived.Test.YthoccmgfpjfkoaaAlignPlain
namespace Go.Proofs.Ythoccmgfpjfkoaa
open Go.RowKit

theorem eStr : EInfo Try.prog 26 9 (.string ByteArray.empty) 1 16 := ⟨Try.underlying26, by kernel_rfl, rfl, by decide, by decide⟩

/-- what of a row is counted: the texts that are not empty -/
def texts (l : List ByteArray) : List ByteArray := l.filter (· ≠ ByteArray.empty)
def keyOf (l : List ByteArray) : ByteArray := ⟨(Code.putList ((texts l).map bytesOf)).toArray⟩
/-- of a column: all texts -/
def allOf (l : List ByteArray) : ByteArray := ⟨(Code.putList (l.map bytesOf)).toArray⟩

theorem texts_snoc_yes {l : List ByteArray} {k : Nat} (h : k < l.length) (h0 : l[k] ≠ ByteArray.empty) : texts (l.take (k + 1)) = texts (l.take k) ++ [l[k]] := by
  rw [take_snoc h, texts, List.filter_append]; simp [texts, h0]
theorem texts_snoc_no {l : List ByteArray} {k : Nat} (h : k < l.length) (h0 : l[k] = ByteArray.empty) : texts (l.take (k + 1)) = texts (l.take k) := by
  rw [take_snoc h, texts, List.filter_append]; simp [texts, h0]
theorem texts_len (l : List ByteArray) : (texts l).length ≤ l.length := List.length_filter_le _ _
theorem texts_mem {l : List ByteArray} {s : ByteArray} (h : s ∈ texts l) : s ∈ l := (List.mem_filter.1 h).1

/-- a list's bytes read as a text -/
theorem putList_rd (w : World) (A : Option Addr) (l : List ByteArray) (n c : Nat) (hn : l.length = n) (hA : At1 vStr w A l) (hl : l.length ≤ 1000) (hs : ∀ s ∈ l, s.size ≤ 1048576) :
    Calls Try.prog 31 #[.slice A n c] w fun e w' => ∃ A c n, e = .returned (.slice A n c) ∧ (convert 46 9 (.slice A n c)).run Try.prog w' = .ok (.string (allOf l)) w' ∧ Below w.heap.size w w' := by
  subst hn
  refine (putList_any w A l c hA hl hs).mono ?_
  rintro e w' ⟨v, rfl, h1, h2⟩
  have hlen : (Code.putList (l.map bytesOf)).length ≤ 9 + 1048585 * l.length := by rw [← listTo_all]; exact listTo_len hl hs _ (Nat.le_refl _)
  obtain ⟨B, d, rfl, h3, _⟩ := own_reads h1 (by omega)
  exact ⟨B, d, _, rfl, run_str_of (P := Try.prog) Try.underlying46 Try.underlying5 Try.underlying9 rfl h3, h2⟩

set_option maxRecDepth 100000 in
set_option maxHeartbeats 400000 in
theorem key_any (w : World) (A : Option Addr) (l : List ByteArray) (c : Nat) (hA : At1 vStr w A l) (hl : l.length ≤ 1000) (hs : ∀ s ∈ l, s.size ≤ 1048576) :
    Calls Try.prog 14 #[.slice A l.length c] w fun e w' => e = .returned (.string (keyOf l)) ∧ Below w.heap.size w w' := by
  have HS := Lib.hid hs
  have HA := Lib.hid hA
  clear hs hA
  go_enter Try.func14, Try.ntmps14
  go_wp2
  go_loopw [3, 5, 8] (fun v _ i wr => ∃ k : Nat, k ≤ l.length ∧ i = .int .i64 k ∧ wr.ownsRow w.heap.size 9 1 v (texts (l.take k)).length ((texts (l.take k)).map vStr) ∧ Below w.heap.size w wr) (fun _ _ i _ => l.length - (intOf i).toNat)
  case atStart => exact ⟨0, Nat.zero_le _, rfl, World.ownsRow_nil _ _ _ _, Below.refl _ _⟩
  case round =>
    obtain ⟨k, hk, rfl, hown, hb⟩ := hrel
    have hsz := hb.size
    have hlen := texts_len (l.take k)
    rw [List.length_take] at hlen
    by_cases hlt : k < l.length
    · obtain ⟨ad, rfl, hc⟩ := (HA.out.below hb).at_ hlt
      by_cases h0 : l[k] = ByteArray.empty
      · have ht := Lib.hid (texts_snoc_no hlt h0)
        rw [h0] at hc
        clear h0
        go_wp2
        go_roundw
        case rel => exact ⟨k + 1, by omega, by go_num, by rw [ht.out]; exact hown, hb⟩
        case measure => first | (simp [intOf]; done) | (simp [intOf]; omega)
      · have ht := Lib.hid (texts_snoc_yes hlt h0)
        have hne : l[k].toList.isEmpty = false := by
          rw [Bool.eq_false_iff]; intro e; exact h0 (toList_inj (by rw [List.isEmpty_iff.1 e]; simp))
        generalize l[k] = s at hc ht hne
        clear h0
        go_wp2_with (at_builtin; refine wpList_app1 eStr rfl rfl hown rfl rfl (by first | rfl | simp) rfl (by omega) (by first | omega | (simp; omega)) ?_; intro v1 w1 hown1 hg1 hk1)
        go_roundw
        case rel => exact ⟨k + 1, by omega, by go_num, by rw [ht.out, List.map_append, List.length_append]; exact hown1, below_grown hb hown hg1 (Nat.le_refl _) hsz⟩
        case measure => first | (simp [intOf]; done) | (simp [intOf]; omega)
    · obtain rfl : k = l.length := by omega
      rw [List.take_of_length_le (Nat.le_refl _)] at hown hlen
      obtain ⟨B, d, rfl, hB, _⟩ := own_reads hown (by omega)
      have HB := Lib.hid hB
      have H := Lib.hid hb
      clear hB hb hown
      go_wp2_with fail
      refine (putList_rd wr B (texts l) _ d rfl HB.out (by have := texts_len l; omega) (fun s h => HS.out s (texts_mem h))).mono ?_
      rintro e w2 ⟨C, c2, n2, rfl, hcv, hb2⟩
      go_wp2
      go_ret
      exact ⟨rfl, H.out.trans (hb2.mono H.out.size)⟩
end Go.Proofs.Ythoccmgfpjfkoaa
