/- The walk of CodeBack. -/
import Derived.Test.YtfjjdmiddigkiaaCodeHelp
namespace Go.Proofs.Ytfjjdmiddigkiaa
open Go.RowKit

theorem getAt_back {n : Nat} (h : n < 9223372036854775808) (x y : List UInt8) : Code.getAt (x ++ Code.putL n ++ y) (x.length : Int) = some (n, x.length + (Code.putL n).length) := by
  apply getAt_some
  rw [List.append_assoc, List.drop_left]
  exact Code.getL_putL h y
theorem getAt_cut {n : Nat} (h : n < 9223372036854775808) : Code.getAt ((Code.putL n).take ((Code.putL n).length - 1)) 0 = none := by
  rw [← List.dropLast_eq_take]
  exact getAt_none (k := 0) (by rw [List.drop_zero]; exact Code.getL_cut h)
theorem mkS_bytesOf (s : ByteArray) : mkS (bytesOf s) = s := by cases s; simp [mkS, bytesOf]
theorem bytes_ok {l : List ByteArray} (h : ∀ s ∈ l, s.size ≤ 1000) : ∀ s ∈ l.map bytesOf, s.length < 9223372036854775808 := by
  intro s hs
  obtain ⟨x, hx, rfl⟩ := List.mem_map.1 hs
  rw [bytesOf_len]
  have := h x hx
  omega
theorem listAt_back {l : List ByteArray} (hl : l.length ≤ 1000) (h : ∀ s ∈ l, s.size ≤ 1000) (x y : List UInt8) :
    listAt (x ++ Code.putList (l.map bytesOf) ++ y) (x.length : Int) = some (l.map bytesOf, x.length + (Code.putList (l.map bytesOf)).length) := by
  rw [listAt, if_neg (by omega), Int.toNat_natCast, List.append_assoc, List.drop_left, Code.getList_put (by simp; omega) (bytes_ok h)]
  rfl
theorem listAt_cut {l : List ByteArray} (hl : l.length ≤ 1000) (h : ∀ s ∈ l, s.size ≤ 1000) : listAt ((Code.putList (l.map bytesOf)).take ((Code.putList (l.map bytesOf)).length - 1)) 0 = none := by
  rw [← List.dropLast_eq_take, listAt, if_neg (by omega)]
  show (Code.getList (((Code.putList (l.map bytesOf)).dropLast).drop 0)).map _ = none
  rw [List.drop_zero, Code.getList_cut (by simp; omega) (bytes_ok h)]; rfl

/-- '[]byte{}' -/
theorem own_empty (w : World) {base : Nat} (hb : base ≤ w.heap.size) (e : TypeId) : (w.alloc (.cells #[] e)).ownsRow base e 1 (.slice (some ⟨w.heap.size, 0, none⟩) 0 0) 0 [] :=
  World.ownsRow_made w #[] 0 hb (by simp [maxLen]) (by simp)

theorem getN_no {w : World} {A : Option Addr} {b : List UInt8} {n c : Nat} {k : Int} (hn : b.length = n) (hA : At1 vByte w A b) (h : Code.getAt b k = none) :
    Calls Try.prog 8 #[.slice A n c, .int .i64 k] w fun e w' => e = .returned (.tuple #[.int .i64 0, .int .i64 0, .bool false]) ∧ w = w' := by
  subst hn; exact get_no hA h
theorem getListN_no {w : World} {A : Option Addr} {b : List UInt8} {n c : Nat} {k : Int} (hn : b.length = n) (hA : At1 vByte w A b) (hc : b.length ≤ c) (hb : b.length ≤ 1000000) (h : listAt b k = none) :
    Calls Try.prog 12 #[.slice A n c, .int .i64 k] w fun e w' => e = .returned (.tuple #[.slice none 0 0, .int .i64 0, .bool false]) ∧ Below w.heap.size w w' := by
  subst hn
  have := getList_any w A b c k hA hc hb
  rwa [h] at this
theorem getList_yes {w : World} {A : Option Addr} {b : List UInt8} {c : Nat} {k : Int} {l : List ByteArray} {m : Nat} (hA : At1 vByte w A b) (hc : b.length ≤ c) (hb : b.length ≤ 1000000) (hl : l.length ≤ 1000) (h : listAt b k = some (l.map bytesOf, m)) :
    Calls Try.prog 12 #[.slice A b.length c, .int .i64 k] w fun e w' => ∃ B d, e = .returned (.tuple #[.slice B l.length d, .int .i64 m, .bool true]) ∧ At1 vStr w' B l ∧ Below w.heap.size w w' := by
  have := getList_any w A b c k hA hc hb
  rw [h] at this
  refine this.mono ?_
  rintro e w' ⟨v, rfl, h1, h2⟩
  have e2 : ((l.map bytesOf).map fun s => vStr (mkS s)) = l.map vStr := by
    rw [List.map_map]
    refine List.map_congr_left fun s _ => ?_
    show vStr (mkS (bytesOf s)) = vStr s
    rw [mkS_bytesOf]
  rw [e2, List.length_map] at h1
  obtain ⟨B, d, rfl, h3, _⟩ := own_reads h1 (by omega)
  exact ⟨B, d, rfl, h3, h2⟩

set_option maxRecDepth 100000 in
set_option maxHeartbeats 1000000 in
theorem codeBack_walk (w : World) (n : Int) (L : Option Addr) (l : List ByteArray) (cl : Nat) (A : Option Addr) (x : List UInt8) (cx : Nat) (B : Option Addr) (y : List UInt8) (cy : Nat)
    (hn : (Lit.int .u64 n).wf = true) (hL : At1 vStr w L l) (hA : At1 vByte w A x) (hB : At1 vByte w B y) :
    Calls Try.prog 4 #[.int .u64 n, .slice L l.length cl, .slice A x.length cx, .slice B y.length cy] w fun e w' => e = .returned (.bool true) ∧ Below w.heap.size w w' := by
  have H0 : Hid (Below w.heap.size w w) := Below.refl _ _
  have hn0 : 0 ≤ n ∧ n ≤ 18446744073709551615 := by simp [Lit.wf, IntKind.min, IntKind.max, IntKind.signed, IntKind.bits] at hn; omega
  obtain ⟨hn1, hn2⟩ := hn0
  clear hn
  go_enter Try.func4, Try.ntmps4
  go_wp2_with fail
  refine (heavy_any w L l cl hL).mono ?_
  rintro e w1 ⟨h, rfl, rfl, hh⟩
  cases h with
  | true =>
    clear hh
    go_wp2_with fail
    refine (awake_end H0).mono ?_
    rintro e w3 ⟨rfl, hb3⟩
    go_wp2
    go_ret
    exact ⟨rfl, hb3.out⟩
  | false =>
    obtain ⟨hl1, hl2⟩ := hh rfl
    have HL2 := Lib.hid hl2
    clear hl2 hh
    by_cases h1 : 100 < x.length
    · go_wp2_with fail
      refine (awake_end H0).mono ?_
      rintro e w3 ⟨rfl, hb3⟩
      go_wp2
      go_ret
      exact ⟨rfl, hb3.out⟩
    by_cases h2 : 100 < y.length
    · go_wp2_with fail
      refine (awake_end H0).mono ?_
      rintro e w3 ⟨rfl, hb3⟩
      go_wp2
      go_ret
      exact ⟨rfl, hb3.out⟩
    obtain ⟨N, hN, hN2⟩ : ∃ N : Nat, n / 2 = (N : Int) ∧ N < 9223372036854775808 := ⟨(n / 2).toNat, by omega, by omega⟩
    obtain ⟨p, hp⟩ : ∃ p, p = Code.putL N := ⟨_, rfl⟩
    obtain ⟨q, hq⟩ : ∃ q, q = Code.putList (l.map bytesOf) := ⟨_, rfl⟩
    have hpn : Code.putN (n / 2) = p := by rw [hN, hp]; unfold Code.putN; rw [if_neg (by omega)]; rfl
    have cput := put_rd w (n / 2) (by omega)
    have cput2 := fun W (hW : At1 vStr W L l) => putList_rd W L l _ cl rfl hW (by omega) HL2.out
    rw [hpn] at cput
    rw [← hq] at cput2
    have hpl : p.length ≤ 9 := by rw [hp]; exact putL_len9 hN2
    have hpp : 0 < p.length := by rw [hp]; exact Code.putL_pos N
    have hql : q.length ≤ 60000 := by rw [hq]; have := putList_len (l := l) (by omega) HL2.out; omega
    have hqp : 0 < q.length := by rw [hq, Code.putList, List.length_append]; have := Code.putL_pos (l.map bytesOf).length; omega
    have fb := getAt_back hN2 x y
    have fc := getAt_cut hN2
    have fl := listAt_back (by omega) HL2.out x y
    have fm := listAt_cut (by omega) HL2.out
    rw [← hp] at fb fc
    rw [← hq] at fl fm
    have HN := Lib.hid hN
    have CP := Lib.hid cput
    have CQ := Lib.hid cput2
    have FB := Lib.hid fb
    have FC := Lib.hid fc
    have FL := Lib.hid fl
    have FM := Lib.hid fm
    clear hN hp hq hpn cput cput2 fb fc fl fm hN2
    go_wp2_with fail
    refine CP.out.mono ?_
    rintro e w2 ⟨P, cp, rfl, hP2, hcp, hb2⟩
    have H2 := Lib.hid hb2
    clear hb2
    go_wp2_with fail
    refine (CQ.out w2 (hL.below H2.out)).mono ?_
    rintro e w3 ⟨Q, cq, rfl, hQ, hcq, hb3⟩
    have H3 : Hid (Below w.heap.size w w3) := H2.out.trans (hb3.mono H2.out.size)
    have hP := hP2.below hb3
    have hA3 := hA.below H3.out
    have hB3 := hB.below H3.out
    clear hb3 hP2
    go_wp2_with (first | (at_builtin; refine wpList_appAll eByte rfl rfl (own_empty w3 (Nat.le_refl _) _) rfl rfl rfl (hA3.alloc _) (fun _ => rfl) (by simp; omega) (by simp) ?_; intro v1 u1 ho1 hg1 hk1; have hw1 := below_grown ((Below.refl w3.heap.size w3).alloc (Nat.le_refl _) _) (own_empty w3 (Nat.le_refl _) _) hg1 (Nat.le_refl _) (by simp); have hP1 := hP.below hw1; have hs1 := hw1.size) | (at_builtin; refine wpList_appAll eByte rfl rfl ho1 rfl rfl rfl hP1 (fun _ => rfl) (by simp; omega) hs1 ?_; intro v2 u2 ho2 hg2 hk2; have hw2 := below_grown hw1 ho1 hg2 (Nat.le_refl _) hs1; have hB2 := hB3.below hw2; have hs2 := hw2.size) | (at_builtin; refine wpList_appAll eByte rfl rfl ho2 rfl rfl rfl hB2 (fun _ => rfl) (by simp; omega) hs2 ?_; intro v3 u3 ho3 hg3 hk3; have hw3 := below_grown hw2 ho2 hg3 (Nat.le_refl _) hs2; have hA4 := hA3.below hw3; have hP4 := hP.below hw3; have hQ4 := hQ.below hw3; have hB4 := hB3.below hw3) | (at_builtin; refine wpList_appAll eByte rfl rfl (own_empty u3 (Nat.le_refl _) _) rfl rfl rfl (hA4.alloc _) (fun _ => rfl) (by simp; omega) (by simp) ?_; intro v4 u4 ho4 hg4 hk4; have hw4 := below_grown ((Below.refl u3.heap.size u3).alloc (Nat.le_refl _) _) (own_empty u3 (Nat.le_refl _) _) hg4 (Nat.le_refl _) (by simp); have hQ5 := hQ4.below hw4; have hs4 := hw4.size) | (at_builtin; refine wpList_appAll eByte rfl rfl ho4 rfl rfl rfl hQ5 (fun _ => rfl) (by simp; omega) hs4 ?_; intro v5 u5 ho5 hg5 hk5; have hw5 := below_grown hw4 ho4 hg5 (Nat.le_refl _) hs4; have hB6 := hB4.below hw5; have hs5 := hw5.size) | (at_builtin; refine wpList_appAll eByte rfl rfl ho5 rfl rfl rfl hB6 (fun _ => rfl) (by simp; omega) hs5 ?_; intro v6 u6 ho6 hg6 hk6; have hw6 := below_grown hw5 ho5 hg6 (Nat.le_refl _) hs5))
    obtain ⟨b1, hb1⟩ : ∃ b1, b1 = x ++ p ++ y := ⟨_, rfl⟩
    obtain ⟨b2, hb2⟩ : ∃ b2, b2 = x ++ q ++ y := ⟨_, rfl⟩
    have r1 : u3.ownsRow w3.heap.size 5 1 v3 b1.length (b1.map vByte) := by rw [hb1]; simpa [Nat.add_assoc] using ho3
    have r2 : u6.ownsRow u3.heap.size 5 1 v6 b2.length (b2.map vByte) := by rw [hb2]; simpa [Nat.add_assoc] using ho6
    have FB1 := FB.out
    have FL1 := FL.out
    rw [← hb1] at FB1
    rw [← hb2] at FL1
    have FB2 := Lib.hid FB1
    have FL2 := Lib.hid FL1
    have hbl1 : b1.length ≤ 1000 := by rw [hb1]; simp; omega
    have hbl2 : b2.length ≤ 100000 := by rw [hb2]; simp; omega
    have H6 : Hid (Below w.heap.size w u6) := H3.out.trans ((hw3.mono H3.out.size).trans (hw6.mono (Nat.le_trans H3.out.size hw3.size)))
    have hP6 := hP4.below hw6
    have hQ6 := hQ4.below hw6
    obtain ⟨X1, c1, rfl, hX, _⟩ := own_reads r1 (by omega)
    obtain ⟨X2, c2, rfl, hX2, hc2⟩ := own_reads r2 (by omega)
    have hX1 := hX.below hw6
    clear hX r1 r2 ho1 ho2 ho3 ho4 ho5 ho6 hg1 hg2 hg3 hg4 hg5 hg6 hk1 hk2 hk3 hk4 hk5 hk6 hw1 hw2 hw3 hw4 hw5 hw6 hP1 hB2 hA4 hP4 hQ4 hB4 hQ5 hB6 hb1 hb2 FB1 FL1 FB FL hP hQ hA3 hB3
    have t1 : ((N : Int) == n / 2) = true := by rw [HN.out]; simp
    have t2 : (((x.length + p.length : Nat) : Int) == (x.length : Int) + (p.length : Int)) = true := by simp
    have t3 : (((x.length + q.length : Nat) : Int) == (x.length : Int) + (q.length : Int)) = true := by simp
    have t4 : ((p.length : Int) == 0) = false := by rw [beq_eq_false_iff_ne]; omega
    have t5 : ((q.length : Int) == 0) = false := by rw [beq_eq_false_iff_ne]; omega
    have hpt : (p.take (p.length - 1)).length = p.length - 1 := by simp
    have hqt : (q.take (q.length - 1)).length = q.length - 1 := by simp
    have HPT := Lib.hid hpt
    have HQT := Lib.hid hqt
    clear hpt hqt
    go_wp2_with fail
    refine (get_yes hX1 FB2.out).mono ?_
    rintro e w7 ⟨rfl, rfl⟩
    go_wp2_with fail
    refine (getList_yes hX2 hc2 (by omega) (by omega) FL2.out).mono ?_
    rintro e w7 ⟨M, cm, rfl, hM, hb7⟩
    have H7 : Hid (Below w.heap.size w w7) := H6.out.trans (hb7.mono H6.out.size)
    have hP7 := hP6.below hb7
    have hQ7 := hQ6.below hb7
    clear hb7
    go_wp2_with fail
    refine (getN_no HPT.out (hP7.take _) FC.out).mono ?_
    rintro e w8 ⟨rfl, rfl⟩
    go_wp2_with fail
    refine (getListN_no HQT.out (hQ7.take _) (by rw [HQT.out]; omega) (by rw [HQT.out]; omega) FM.out).mono ?_
    rintro e w8 ⟨rfl, hb8⟩
    have H8 : Hid (Below w.heap.size w w8) := H7.out.trans (hb8.mono H7.out.size)
    have hM8 := hM.below hb8
    clear hb8
    go_wp2_with fail
    refine (texts_eq w8 M L l _ _ cm cl rfl rfl hM8 (hL.below H8.out)).mono ?_
    rintro e w9 ⟨rfl, hb9⟩
    have H9 : Hid (Below w.heap.size w w9) := H8.out.trans (hb9.mono H8.out.size)
    clear hb9
    go_wp2_with fail
    refine (awake_end H9).mono ?_
    rintro e w10 ⟨rfl, hb10⟩
    go_wp2
    go_ret
    exact ⟨rfl, hb10.out⟩
end Go.Proofs.Ytfjjdmiddigkiaa
