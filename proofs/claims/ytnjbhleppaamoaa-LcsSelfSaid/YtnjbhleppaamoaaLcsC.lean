/- The law's own functions: dealt, awake. -/
import Derived.Test.YtnjbhleppaamoaaLcsA
import Derived.Test.YtnjbhleppaamoaaLcsRefB
namespace Go.Proofs.Ytnjbhleppaamoaa
open Go.RowKit

def between (n : UInt8) : ByteArray := ⟨#[97 + n / 2 % 7]⟩
theorem between_num (n : UInt8) : 97 + (((n.toNat : Int) / 2) % 256 % 7) = ((97 + n / 2 % 7 : UInt8).toNat : Int) := by
  have h : (97 + n / 2 % 7 : UInt8).toNat = 97 + n.toNat / 2 % 7 := by
    rw [UInt8.toNat_add, UInt8.toNat_mod, UInt8.toNat_div]
    have : n.toNat / 2 % 7 < 7 := Nat.mod_lt _ (by omega)
    show (97 + n.toNat / 2 % 7) % 256 = _
    omega
  have := n.toNat_lt
  rw [h]; omega
/-- what is put in ahead of the i-th, and it -/
def dealtAt (l : List ByteArray) (ns : List UInt8) (i : Nat) : List ByteArray :=
  (match ns[i]? with | some n => if n.toNat % 2 = 1 then [between n] else [] | none => []) ++ (match l[i]? with | some x => [x] | none => [])
def dealtTo (l : List ByteArray) (ns : List UInt8) : Nat → List ByteArray
  | 0 => []
  | k + 1 => dealtTo l ns k ++ dealtAt l ns k
theorem dealtAt_len (l : List ByteArray) (ns : List UInt8) (i : Nat) : (dealtAt l ns i).length ≤ 2 := by
  unfold dealtAt
  split <;> split <;> (try split) <;> simp
theorem dealtTo_len (l : List ByteArray) (ns : List UInt8) : ∀ k, (dealtTo l ns k).length ≤ 2 * k
  | 0 => by simp [dealtTo]
  | k + 1 => by
    have := dealtTo_len l ns k
    have := dealtAt_len l ns k
    simp only [dealtTo, List.length_append]; omega
theorem dealt_sub (l : List ByteArray) (ns : List UInt8) : ∀ k, (l.take k).Sublist (dealtTo l ns k)
  | 0 => by simp [dealtTo]
  | k + 1 => by
    rw [List.take_add_one, dealtTo]
    refine List.Sublist.append (dealt_sub l ns k) ?_
    unfold dealtAt
    refine List.Sublist.trans ?_ (List.sublist_append_right _ _)
    cases l[k]? <;> simp

/-- a cell that was there ahead of the call lies in no row of the call's own -/
theorem ne_of_lt_own {w0 : World} {base n size : Nat} {e : TypeId} {v : Value} {xs : List Value} (hown : w0.ownsRow base e size v n xs) {p : Addr} (hp : p.block < base) : some p.block ≠ v.ownBlock := by
  intro e
  have := (hown.lt _ e.symm).1
  omega

set_option maxRecDepth 100000 in
set_option maxHeartbeats 600000 in
theorem dealt_any (w : World) (A B : Option Addr) (l : List ByteArray) (ns : List UInt8) (c d : Nat) (hA : At1 vStr w A l) (hB : At1 vByte w B ns) (hl : l.length ≤ 40) (hn : ns.length ≤ 40) :
    Calls Try.prog 9 #[.slice A l.length c, .slice B ns.length d] w fun e w' => ∃ v, e = .returned v ∧ w'.ownsRow w.heap.size 9 1 v (dealtTo l ns (max l.length ns.length)).length ((dealtTo l ns (max l.length ns.length)).map vStr) ∧ Below w.heap.size w w' := by
  have hmax := @run_max2 Try.prog
  go_enter Try.func9, Try.ntmps9
  go_wp2
  go_loopw [5, 6] (fun v i wr => ∃ k : Nat, k ≤ max l.length ns.length ∧ i = .int .i64 k ∧ wr.ownsRow w.heap.size 9 1 v (dealtTo l ns k).length ((dealtTo l ns k).map vStr) ∧ Below w.heap.size w wr) (fun _ i _ => max l.length ns.length - (intOf i).toNat)
  case atStart => exact ⟨0, Nat.zero_le _, rfl, World.ownsRow_nil _ _ _ _, Below.refl _ _⟩
  case round =>
    obtain ⟨k, hk, rfl, hown, hb⟩ := hrel
    have hsz := hb.size
    have hlen := dealtTo_len l ns k
    by_cases hlt : k < max l.length ns.length
    · have hlt1 : (k : Int) < max (l.length : Int) (ns.length : Int) := by omega
      have hdec : decide ((k : Int) < max (l.length : Int) (ns.length : Int)) = true := by simpa using hlt1
      have HA := Lib.hid hA
      have HB := Lib.hid hB
      have HH := Lib.hid hlt
      clear hA hB
      by_cases h1 : k < ns.length
      · obtain ⟨bd, rfl, hcb⟩ := (HB.out.below hb).at_ h1
        have hnum := between_num ns[k]
        have hns : ns[k]? = some ns[k] := List.getElem?_eq_getElem h1
        by_cases h2 : ns[k].toNat % 2 = 1
        · have h2' : (0 : Int) < (ns[k].toNat : Int) % 2 := by omega
          have hcv := run_str1 (P := Try.prog) Try.underlying22 Try.underlying5 Try.underlying9 wr _ _ hnum
          by_cases h3 : k < l.length
          · as_aux_lemma =>
            obtain ⟨ad, rfl, hca0⟩ := HA.out.at_ h3
            have hpb := World.block_lt_of_cell? _ _ hca0
            have hca : wr.cell? (ad.add k) = some (.string l[k]) := (hb.cell hpb).trans hca0
            clear hca0
            have hls : l[k]? = some l[k] := List.getElem?_eq_getElem h3
            have hd := Lib.hid (show dealtAt l ns k = [between ns[k], l[k]] by simp [dealtAt, hns, hls, h2])
            clear hns hls hnum h2
            generalize l[k] = s at hca hd
            go_wp2_with (first | (at_builtin; refine wpList_app1 eStr rfl rfl (hown.alloc _) rfl rfl (by first | rfl | simp) rfl (by omega) (by first | omega | (simp; omega)) ?_; intro v1 w1 hown1 hg1 hk1; have hs1 : w.heap.size ≤ w1.heap.size := Nat.le_trans (by simp; omega) hg1.size; have hca1 := hg1.cell ((World.cell?_alloc_lt _ _ _ (World.block_lt_of_cell? _ _ hca)).trans hca) (ne_of_lt_own hown hpb)) | (at_builtin; refine wpList_app1 eStr rfl rfl hown1 rfl rfl (by first | rfl | simp) rfl (by omega) (by first | omega | (simp; omega)) ?_; intro v2 w2 hown2 hg2 hk2))
            go_roundw
            case rel =>
              have hb1 := below_grown (hb.alloc hsz _) (hown.alloc _) hg1 (Nat.le_refl _) (by simp; omega)
              refine ⟨k + 1, by omega, by go_num, ?_, below_grown hb1 hown1 hg2 (Nat.le_refl _) hb1.size⟩
              rw [dealtTo, hd.out, List.map_append, List.length_append]
              rw [List.append_assoc] at hown2
              exact hown2
            case measure => first | (simp [intOf]; done) | (simp [intOf]; omega)
          · as_aux_lemma =>
            have hls : l[k]? = none := List.getElem?_eq_none (by omega)
            have hd := Lib.hid (show dealtAt l ns k = [between ns[k]] by simp [dealtAt, hns, hls, h2])
            clear hns hls hnum h2
            go_wp2_with (at_builtin; refine wpList_app1 eStr rfl rfl (hown.alloc _) rfl rfl (by first | rfl | simp) rfl (by omega) (by first | omega | (simp; omega)) ?_; intro v1 w1 hown1 hg1 hk1)
            go_roundw
            case rel =>
              refine ⟨k + 1, by omega, by go_num, ?_, below_grown (hb.alloc hsz _) (hown.alloc _) hg1 (Nat.le_refl _) (by simp; omega)⟩
              rw [dealtTo, hd.out, List.map_append, List.length_append]
              exact hown1
            case measure => first | (simp [intOf]; done) | (simp [intOf]; omega)
        · have h2' : ¬ (0 : Int) < (ns[k].toNat : Int) % 2 := by omega
          by_cases h3 : k < l.length
          · as_aux_lemma =>
            obtain ⟨ad, rfl, hca0⟩ := HA.out.at_ h3
            have hpb := World.block_lt_of_cell? _ _ hca0
            have hca : wr.cell? (ad.add k) = some (.string l[k]) := (hb.cell hpb).trans hca0
            clear hca0
            have hls : l[k]? = some l[k] := List.getElem?_eq_getElem h3
            have hd := Lib.hid (show dealtAt l ns k = [l[k]] by simp [dealtAt, hns, hls, h2])
            clear hns hls hnum h2
            generalize l[k] = s at hca hd
            go_wp2_with (at_builtin; refine wpList_app1 eStr rfl rfl hown rfl rfl (by first | rfl | simp) rfl (by omega) (by first | omega | (simp; omega)) ?_; intro v1 w1 hown1 hg1 hk1)
            go_roundw
            case rel =>
              refine ⟨k + 1, by omega, by go_num, ?_, below_grown hb hown hg1 (Nat.le_refl _) hsz⟩
              rw [dealtTo, hd.out, List.map_append, List.length_append]
              exact hown1
            case measure => first | (simp [intOf]; done) | (simp [intOf]; omega)
          · as_aux_lemma =>
            have hls : l[k]? = none := List.getElem?_eq_none (by omega)
            have hd := Lib.hid (show dealtAt l ns k = [] by simp [dealtAt, hns, hls, h2])
            clear hns hls hnum h2
            go_wp2
            go_roundw
            case rel =>
              refine ⟨k + 1, by omega, by go_num, ?_, hb⟩
              rw [dealtTo, hd.out, List.append_nil]
              exact hown
            case measure => first | (simp [intOf]; done) | (simp [intOf]; omega)
      · have hns : ns[k]? = none := List.getElem?_eq_none (by omega)
        have h3 : k < l.length := by omega
        as_aux_lemma =>
          obtain ⟨ad, rfl, hca0⟩ := HA.out.at_ h3
          have hpb := World.block_lt_of_cell? _ _ hca0
          have hca : wr.cell? (ad.add k) = some (.string l[k]) := (hb.cell hpb).trans hca0
          clear hca0
          have hls : l[k]? = some l[k] := List.getElem?_eq_getElem h3
          have hd := Lib.hid (show dealtAt l ns k = [l[k]] by simp [dealtAt, hns, hls])
          clear hns hls
          generalize l[k] = s at hca hd
          go_wp2_with (at_builtin; refine wpList_app1 eStr rfl rfl hown rfl rfl (by first | rfl | simp) rfl (by omega) (by first | omega | (simp; omega)) ?_; intro v1 w1 hown1 hg1 hk1)
          go_roundw
          case rel =>
            refine ⟨k + 1, by omega, by go_num, ?_, below_grown hb hown hg1 (Nat.le_refl _) hsz⟩
            rw [dealtTo, hd.out, List.map_append, List.length_append]
            exact hown1
          case measure => first | (simp [intOf]; done) | (simp [intOf]; omega)
    · go_wp2
      go_ret
      obtain rfl : k = max l.length ns.length := by omega
      exact ⟨_, rfl, hown, hb⟩

theorem L_abc {α : Type} [DecidableEq α] {x y z u : α} (h1 : x ≠ y) (h2 : x ≠ z) (h3 : x ≠ u) (h4 : y ≠ z) (h5 : y ≠ u) (h6 : z ≠ u) : Lcs.L [x, y, z] [y, z, u] = 2 := by
  simp [Lcs.L, h1, h2, h3, h4, h5, h6]

set_option maxRecDepth 100000 in
theorem awake_any (w : World) : Calls Try.prog 7 #[] w fun e w' => e = .returned (.bool true) ∧ Below w.heap.size w w' := by
  go_enter Try.func7, Try.ntmps7
  go_wp2_with fail
  have hb1 := Lib.hid (((Below.refl w.heap.size w).alloc (Nat.le_refl _) (.cells #[.string ⟨#[97]⟩, .string ⟨#[98]⟩, .string ⟨#[99]⟩] 9)).alloc (by simp) (.cells #[.string ⟨#[98]⟩, .string ⟨#[99]⟩, .string ⟨#[100]⟩] 9))
  refine (long_all _ _ _ [⟨#[97]⟩, ⟨#[98]⟩, ⟨#[99]⟩] [⟨#[98]⟩, ⟨#[99]⟩, ⟨#[100]⟩] 3 3 ?_ ?_).mono ?_
  · refine at1_lit (by simp) ((Below.heap_alloc _ _ _ (by simp)).trans (heap_alloc_new _ _)) fun i x hx => ?_
    match i, hx with
    | 0, hx | 1, hx | 2, hx => simp at hx; subst hx; rfl
  · refine at1_lit (by simp) (by have := heap_alloc_new (w.alloc (.cells #[.string ⟨#[97]⟩, .string ⟨#[98]⟩, .string ⟨#[99]⟩] 9)) (.cells #[.string ⟨#[98]⟩, .string ⟨#[99]⟩, .string ⟨#[100]⟩] 9); simpa using this) fun i x hx => ?_
    match i, hx with
    | 0, hx | 1, hx | 2, hx => simp at hx; subst hx; rfl
  · rintro e w1 ⟨rfl, hb⟩
    have hL : longOf [⟨#[97]⟩, ⟨#[98]⟩, ⟨#[99]⟩] [⟨#[98]⟩, ⟨#[99]⟩, ⟨#[100]⟩] = 2 := by
      rw [longOf, if_neg (by simp)]
      exact L_abc (by decide) (by decide) (by decide) (by decide) (by decide) (by decide)
    rw [hL]
    have hb2 := Lib.hid (hb1.out.trans (hb.mono hb1.out.size))
    clear hb hb1 hL
    go_wp2
    go_ret
    exact ⟨rfl, hb2.out⟩
end Go.Proofs.Ytnjbhleppaamoaa
