/- law14.CalcSums answers true. Written by cswalk.py. · A law's arguments opened: what came in reads as lists. No program in sight. -/
import Derived.WalkKit
import Derived.ProofKit
import Derived.Test.YtehbfpcfbpbllaaGreatDoorMg6
import Derived.Test.YtehbfpcfbpbllaaGreatDoorMg7
import Derived.Test.YtehbfpcfbpbllaaGreatDoorMg8
import Derived.Test.YtehbfpcfbpbllaaGreatDoorMg9
import Derived.Test.YtehbfpcfbpbllaaGreatDoorMg10
import Derived.Test.YtehbfpcfbpbllaaGreatDoorMg11
import Derived.Test.YtehbfpcfbpbllaaGreatDoorMg12
import Derived.Test.YtehbfpcfbpbllaaGreatDoorMg13
import Derived.Test.YtehbfpcfbpbllaaGreatDoorMg14
import Derived.Test.YtehbfpcfbpbllaaGreatDoorMg15
import Derived.Test.YtehbfpcfbpbllaaGreatDoorMg16
import Derived.Test.YtehbfpcfbpbllaaGreatDoorMg17
import Derived.Test.YtehbfpcfbpbllaaGreatDoorMg18
import Derived.Test.YtehbfpcfbpbllaaGreatDoorMg19
import Derived.Test.YtehbfpcfbpbllaaGreatDoorMg20
import Derived.Test.YtehbfpcfbpbllaaGreatDoorMg21
import Derived.Test.YtehbfpcfbpbllaaGreatDoorMg22
import Derived.Test.YtehbfpcfbpbllaaGreatDoorMg23
import Derived.Test.YtehbfpcfbpbllaaGreatDoorMg24
import Derived.Test.YtehbfpcfbpbllaaGreatDoorMg25
import Derived.Test.YtehbfpcfbpbllaaGreatDoorMg26
import Derived.Test.YtehbfpcfbpbllaaGreatDoorMg27
namespace Go.Proofs.YtehbfpcfbpbllaaGreatDoor
open Go Go.RowKit VM
set_option linter.unusedVariables false
set_option maxRecDepth 100000
theorem awake_cs (W : World) : Calls Tryz.prog 6 #[] W fun e W' => e = .returned (.bool true) ∧ Below W.heap.size W W' := by
  letI := syNo
  have h := awakeMemo_ok W.heap.size (fun _ => none) ⟨.leaf, 0⟩ W [] (Rel.none W fun p hp => by cases hp) RepL.nil
  have e : (callFunc 6 ([] : List Value).toArray).run Tryz.prog W = .ok (.enter 6 ([] : List Value).toArray) W := enter_of Tryz.func6 (by kernel_rfl) _ _
  rw [e] at h
  refine Calls.mono h ?_
  rintro e w2 ⟨x, rfl, σ, _, _, h2, _, h4⟩
  cases h2
  exact ⟨rfl, h4⟩
theorem calcSums_walk (W : World) (A : Option Addr) (l : List Int) (c : Nat) (n : Int) (hl : At1 (Value.int .i16) W A l) (hw : ∀ n ∈ l, (Lit.int .i16 n).wf = true) (w1 : (Lit.int .u8 n).wf = true) (htabs : Tabs W) :
    Calls Tryz.prog 3 #[.slice A l.length c, .int .u8 n] W fun e W' => e = .returned (.bool true) ∧ Below W.heap.size W W' := by
  have hln := hl.1
  by_cases hz : l.length = 0
  · have hd : ((l.length : Int) == 0) = true := by rw [hz]; rfl
    have hd2 : decide ((l.length : Int) = 0) = true := by rw [hz]; rfl
    have hd3 : decide (22 < (l.length : Int)) = false := by rw [hz]; rfl
    clear hl hw htabs
    go_enter Tryz.func3, Tryz.ntmps3
    go_wp2_with fail
    refine (awake_cs _).mono ?_
    rintro e w5 ⟨rfl, hb9⟩
    go_wp2
    go_ret
    exact ⟨rfl, hb9⟩
  by_cases hbig : 22 < l.length
  · have hd : ((l.length : Int) == 0) = false := beq_eq_false_iff_ne.2 (by omega)
    have hd2 : decide ((l.length : Int) = 0) = false := decide_eq_false (by omega)
    have hd3 : decide (22 < (l.length : Int)) = true := decide_eq_true (by omega)
    clear hl hw htabs
    go_enter Tryz.func3, Tryz.ntmps3
    go_wp2_with fail
    refine (awake_cs _).mono ?_
    rintro e w5 ⟨rfl, hb9⟩
    go_wp2
    go_ret
    exact ⟨rfl, hb9⟩
  obtain ⟨htab, herr⟩ := htabs
  simp [Lit.wf, IntKind.min, IntKind.max, IntKind.signed, IntKind.bits] at w1
  have hr : ∀ x ∈ l, -32768 ≤ x ∧ x ≤ 32767 := fun x hx => by simpa [Lit.wf, IntKind.min, IntKind.max, IntKind.signed, IntKind.bits] using hw x hx
  obtain ⟨g, hg⟩ : ∃ g, Tryz.prog.globalNamed "internal/strconv.uint64pow10" = some g := ⟨2, by kernel_rfl⟩
  obtain ⟨obj, hobj⟩ : ∃ obj, W.heap[g]? = some obj := by
    cases hw : W.heap[g]? with
    | some o => exact ⟨o, rfl⟩
    | none =>
      exfalso
      unfold Tab Lib.TabIs World.var? at htab
      simp [hg, hw] at htab
  obtain ⟨u, v, ty, fz, he⟩ := herr
  obtain ⟨o2, ho2⟩ : ∃ o2, o2 = Obj.cells #[.iface u v] ty fz := ⟨_, rfl⟩
  rw [← ho2] at he
  have hT : ∀ w : World, (∀ p ∈ [(g, obj), (0, o2)], w.heap[p.1]? = some p.2) → Tab w := fun w hw => by
    have h1 := hw (g, obj) (by simp)
    have h2 := htab
    unfold Tab Lib.TabIs World.var? at h2 ⊢
    simp only [hg, Option.bind_some, hobj] at h2 ⊢
    rw [h1]
    exact h2
  have hG : GlobOK Tryz.prog [(g, obj), (0, o2)] globs := globOK_of ho2
  have hW : ∀ p ∈ [(g, obj), (0, o2)], p.1 < W.heap.size ∧ W.heap[p.1]? = some p.2 := fun p hp => by
    simp only [List.mem_cons, List.not_mem_nil, or_false] at hp
    rcases hp with rfl | rfl
    · exact ⟨(Array.getElem?_eq_some_iff.1 hobj).1, hobj⟩
    · exact ⟨(Array.getElem?_eq_some_iff.1 he).1, he⟩
  clear htab
  rcases (by omega : l.length = 1 ∨ l.length = 2 ∨ l.length = 3 ∨ l.length = 4 ∨ l.length = 5 ∨ l.length = 6 ∨ l.length = 7 ∨ l.length = 8 ∨ l.length = 9 ∨ l.length = 10 ∨ l.length = 11 ∨ l.length = 12 ∨ l.length = 13 ∨ l.length = 14 ∨ l.length = 15 ∨ l.length = 16 ∨ l.length = 17 ∨ l.length = 18 ∨ l.length = 19 ∨ l.length = 20 ∨ l.length = 21 ∨ l.length = 22) with h | h | h | h | h | h | h | h | h | h | h | h | h | h | h | h | h | h | h | h | h | h
  · exact csCase1 hT hG W hW A l c n hl h hr w1.1 w1.2
  · exact csCase2 hT hG W hW A l c n hl h hr w1.1 w1.2
  · exact csCase3 hT hG W hW A l c n hl h hr w1.1 w1.2
  · exact csCase4 hT hG W hW A l c n hl h hr w1.1 w1.2
  · exact csCase5 hT hG W hW A l c n hl h hr w1.1 w1.2
  · exact csCase6 hT hG W hW A l c n hl h hr w1.1 w1.2
  · exact csCase7 hT hG W hW A l c n hl h hr w1.1 w1.2
  · exact csCase8 hT hG W hW A l c n hl h hr w1.1 w1.2
  · exact csCase9 hT hG W hW A l c n hl h hr w1.1 w1.2
  · exact csCase10 hT hG W hW A l c n hl h hr w1.1 w1.2
  · exact csCase11 hT hG W hW A l c n hl h hr w1.1 w1.2
  · exact csCase12 hT hG W hW A l c n hl h hr w1.1 w1.2
  · exact csCase13 hT hG W hW A l c n hl h hr w1.1 w1.2
  · exact csCase14 hT hG W hW A l c n hl h hr w1.1 w1.2
  · exact csCase15 hT hG W hW A l c n hl h hr w1.1 w1.2
  · exact csCase16 hT hG W hW A l c n hl h hr w1.1 w1.2
  · exact csCase17 hT hG W hW A l c n hl h hr w1.1 w1.2
  · exact csCase18 hT hG W hW A l c n hl h hr w1.1 w1.2
  · exact csCase19 hT hG W hW A l c n hl h hr w1.1 w1.2
  · exact csCase20 hT hG W hW A l c n hl h hr w1.1 w1.2
  · exact csCase21 hT hG W hW A l c n hl h hr w1.1 w1.2
  · exact csCase22 hT hG W hW A l c n hl h hr w1.1 w1.2
end Go.Proofs.YtehbfpcfbpbllaaGreatDoor
namespace Go.Proofs.YtehbfpcfbpbllaaGreatDoor
open Go.ChangeShapes Go.WideShapes Go.ChangeAt Go.RowKit
section
variable {H : Type} {enc : TypeId × Value → H} {P : Program} {w : World} {base : Nat} {spare : Nat → Bool} {held : Bool} {r : Reach} {b0 : Nat} {t e : TypeId} {v : Value} {d : DataW H} {p : List MemPlace}

theorem getElem?_take_getD {α : Type} {l : List α} {n i : Nat} {x y : α} (h : (l.take n)[i]? = some x) : i < l.length ∧ l.getD i y = x := by
  rw [List.getElem?_take] at h
  split at h
  · obtain ⟨h1, h2⟩ := List.getElem?_eq_some_iff.1 h
    exact ⟨h1, by simp [List.getD, h]⟩
  · cases h

theorem open_ints_at {k : IntKind} (ht : P.underlying t = some (.slice e)) (he : P.underlying e = some (.int k)) (hc : P.cellsOf e = 1) (hval : Value.okWide P w r b0 t v) (h : DataW.Trod enc P w base spare held t v d p) :
    ∃ A c zs, v = .slice A zs.length c ∧ At1 (Value.int k) w A zs ∧ (∀ n ∈ zs, (Lit.int k n).wf = true) := by
  obtain ⟨a, len, cap, rfl⟩ := okWide_slice ht hval
  obtain ⟨fuel, hf⟩ := h
  rcases open_ints ht he hc hf with ⟨hcs, _⟩ | ⟨x, l, c, zs, hcs, _, hl, hm, hz, _, hcell, hwz⟩
  · simp [Value.cells] at hcs
    obtain ⟨rfl, rfl, rfl⟩ := hcs
    exact ⟨none, 0, [], rfl, At1.nil _ _ _, by simp⟩
  · simp [Value.cells] at hcs
    obtain ⟨rfl, rfl, rfl⟩ := hcs
    have hz' : len ≤ zs.length := by rw [hz]; split <;> omega
    refine ⟨some x, cap, zs.take len, by rw [List.length_take, Nat.min_eq_left hz'], ⟨?_, fun _ => ⟨x, rfl, fun i y hy => ?_⟩⟩, fun n hn => hwz n (List.mem_of_mem_take hn)⟩
    · rw [List.length_take]; unfold maxLen at hm; omega
    · obtain ⟨h1, h2⟩ := getElem?_take_getD (y := 0) hy
      rw [hcell i h1, h2]

theorem open_bytes_at (ht : P.underlying t = some (.slice e)) (he : P.underlying e = some (.int .u8)) (hc : P.cellsOf e = 1) (hval : Value.okWide P w r b0 t v) (h : DataW.Trod enc P w base spare held t v d p) :
    ∃ A c ns, v = .slice A ns.length c ∧ At1 vByte w A ns := by
  obtain ⟨A, c, zs, rfl, h1, h2⟩ := open_ints_at ht he hc hval h
  refine ⟨A, c, zs.map fun n => UInt8.ofNat n.toNat, by simp, by simpa using h1.1, fun hn => ?_⟩
  obtain ⟨ad, rfl, hcell⟩ := h1.2 (by simpa using hn)
  refine ⟨ad, rfl, fun i x hx => ?_⟩
  rw [List.getElem?_map] at hx
  cases hz : zs[i]? with
  | none => rw [hz] at hx; cases hx
  | some z =>
    rw [hz] at hx
    injection hx with hx
    subst hx
    have hw := h2 z (List.mem_of_getElem? hz)
    simp [Lit.wf, IntKind.min, IntKind.max, IntKind.signed, IntKind.bits] at hw
    rw [hcell i z hz]
    have hlt : z.toNat < 256 := by omega
    show some (Value.int .u8 z) = some (Value.int .u8 ((UInt8.ofNat z.toNat).toNat : Int))
    rw [UInt8.toNat_ofNat_of_lt' hlt]
    congr 2
    omega

theorem open_strs_at (ht : P.underlying t = some (.slice e)) (he : P.underlying e = some .string) (hc : P.cellsOf e = 1) (hval : Value.okWide P w r b0 t v) (h : DataW.Trod enc P w base spare held t v d p) :
    ∃ A c ss, v = .slice A ss.length c ∧ At1 vStr w A ss ∧ (∀ s ∈ ss, s.size ≤ 9223372036854775807) := by
  obtain ⟨a, len, cap, rfl⟩ := okWide_slice ht hval
  obtain ⟨fuel, hf⟩ := h
  rcases open_strings ht he hc hf with ⟨hcs, _⟩ | ⟨x, l, c, zs, hcs, _, hl, hm, hz, _, hcell, hwz⟩
  · simp [Value.cells] at hcs
    obtain ⟨rfl, rfl, rfl⟩ := hcs
    exact ⟨none, 0, [], rfl, At1.nil _ _ _, by simp⟩
  · simp [Value.cells] at hcs
    obtain ⟨rfl, rfl, rfl⟩ := hcs
    have hz' : len ≤ zs.length := by rw [hz]; split <;> omega
    refine ⟨some x, cap, zs.take len, by rw [List.length_take, Nat.min_eq_left hz'], ⟨?_, fun _ => ⟨x, rfl, fun i y hy => ?_⟩⟩, fun n hn => hwz n (List.mem_of_mem_take hn)⟩
    · rw [List.length_take]; unfold maxLen at hm; omega
    · obtain ⟨h1, h2⟩ := getElem?_take_getD (y := ByteArray.empty) hy
      rw [hcell i h1, h2]
end
end Go.Proofs.YtehbfpcfbpbllaaGreatDoor
