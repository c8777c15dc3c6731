/- A list of commits as an argument, opened. -/
import Derived.Test.YtfhgnolfhiffbaaRows
import Derived.Test.YtfhgnolfhiffbaaOpen
import Derived.Test.YtfhgnolfhiffbaaPFind
import Derived.Deep.Slices
import Derived.Deep.Strs
import Derived.Lib.SmallJoins
namespace Go.Proofs.Ytfhgnolfhiffbaa
open Go.ChangeShapes Go.WideShapes Go.ChangeAt Go.RowKit
instance : Inhabited HC := ⟨⟨.empty, none, [], 0, none, 0, 0, .empty⟩⟩
section
variable {H : Type} {enc : TypeId × Value → H} {P : Program} {w : World} {base : Nat} {spare : Nat → Bool} {held : Bool} {r : Reach} {b0 : Nat} {t e q : TypeId} {v : Value} {d : DataW H} {p : List MemPlace}
theorem open_strs_in {fuel : Nat} {cs : List Value} {x : DataW H × List MemPlace} (ht : P.underlying t = some (.slice e)) (he : P.underlying e = some .string) (hc : P.cellsOf e = 1) (h : DataW.trod enc P w base spare held fuel t cs = some x) :
    ∃ A c ss, cs = [.slice A (List.length ss) c] ∧ At1 vStr w A ss := by
  rcases open_strings ht he hc h with ⟨hcs, _⟩ | ⟨a, l, c, zs, hcs, _, hl, hm, hz, hx, hcell, hwz⟩
  · exact ⟨none, 0, [], hcs, At1.nil _ _ _⟩
  · have hz' : l ≤ zs.length := by rw [hz]; split <;> omega
    refine ⟨some a, c, zs.take l, by rw [List.length_take, Nat.min_eq_left hz']; exact hcs, ⟨?_, fun _ => ⟨a, rfl, fun i y hy => ?_⟩⟩⟩
    · rw [List.length_take]; unfold maxLen at hm; omega
    · obtain ⟨h1, h2⟩ := getElem?_take_getD (y := ByteArray.empty) hy
      rw [hcell i h1, h2]
end
set_option maxRecDepth 100000 in
theorem open_commits_at {H : Type} {enc : TypeId × Value → H} {w : World} {base : Nat} {spare : Nat → Bool} {held : Bool} {r : Reach} {b0 : Nat} {v : Value} {d : DataW H} {p : List MemPlace}
    (hval : Value.okWide Try.prog w r b0 23 v) (h : DataW.Trod enc Try.prog w base spare held 23 v d p) :
    ∃ A c l, v = .slice A (List.length l) c ∧ AtC w A l ∧ l.length ≤ c := by
  obtain ⟨a0, len0, cap0, rfl⟩ := okWide_slice Try.underlying23 hval
  obtain ⟨fuel, hf⟩ := h
  have hc : Try.prog.cellsOf 31 = 4 := by kernel_rfl
  have hc9 : Try.prog.cellsOf 9 = 1 := by kernel_rfl
  have hcS : Try.prog.cellsOf 26 = 1 := by kernel_rfl
  have hcB : Try.prog.cellsOf 29 = 1 := by kernel_rfl
  have hcT : Try.prog.cellsOf 27 = 1 := by kernel_rfl
  rcases Go.Deep.open_slice Try.underlying23 hf with ⟨hcs, _⟩ | ⟨a, len, cap, m, n, D, Pl, hcs, _, hl, hm, hmm, _, hx⟩
  · simp [Value.cells] at hcs
    obtain ⟨rfl, rfl, rfl⟩ := hcs
    exact ⟨none, 0, [], rfl, ⟨Nat.zero_le _, by simp, fun h0 => absurd h0 (Nat.lt_irrefl 0)⟩, Nat.le_refl _⟩
  · simp [Value.cells] at hcs
    obtain ⟨rfl, rfl, rfl⟩ := hcs
    have hlm : len0 ≤ m := by rw [hmm]; split <;> omega
    rw [hc] at hx
    have each : ∀ i, i < len0 → ∃ y : HC, At1 vStr w y.A y.ps ∧ w.cells? base (a.add (i * 4)) 4 = some [.string y.id, .slice y.A y.ps.length y.cap, .slice y.Z y.zn y.zc, .string y.note] := by
      intro i hi
      obtain ⟨cs', h1, h2⟩ := hx i (by omega)
      obtain ⟨y0, y1, y2, y3, n2, _, hlen, g0, g1, g2, g3⟩ := Go.Joins.trod_struct4 Try.underlying31 h2
      rw [hc] at hlen
      match cs', hlen with
      | [u0, u1, u2, u3], _ =>
        simp only [hc9, hcS, hcB, List.drop_zero, List.drop_succ_cons, List.take_succ_cons, List.take_zero] at g0 g1 g2 g3
        obtain ⟨id, e0, _, _⟩ := DataW.trod_string Try.underlying9 g0
        obtain ⟨note, e3, _, _⟩ := DataW.trod_string Try.underlying9 g3
        obtain ⟨PA, pc, ss, e1, hss⟩ := open_strs_in Try.underlying26 Try.underlying9 hc9 g1
        obtain ⟨z0, n3, _, _, k0⟩ := trod_struct1 Try.underlying29 g2
        simp only [hcT, List.drop_zero, List.take_succ_cons, List.take_zero] at k0
        have hb : ∃ Z zn zc, u2 = .slice Z zn zc := by
          rcases Go.Deep.open_slice Try.underlying27 k0 with ⟨q1, _⟩ | ⟨za, zl, zcap, _, _, _, _, q1, _⟩
          · injection q1 with q1 _
            exact ⟨_, _, _, q1⟩
          · injection q1 with q1 _
            exact ⟨_, _, _, q1⟩
        obtain ⟨Z, zn, zc, e2⟩ := hb
        simp only [List.cons.injEq, and_true] at e0 e1 e3
        subst e0 e1 e2 e3
        exact ⟨⟨id, PA, ss, pc, Z, zn, zc, note⟩, hss, h1⟩
    obtain ⟨y, hy⟩ := Go.Deep.choose_lt each
    refine ⟨some a, cap0, (List.range len0).map y, by simp, ⟨by simp; unfold maxLen at hm; omega, fun z hz => ?_, fun h0 => ?_⟩, by simpa using hl⟩
    · obtain ⟨i, hi, rfl⟩ := List.mem_map.1 hz
      exact (hy i (List.mem_range.1 hi)).1
    · have h0' : 0 < len0 := by simpa using h0
      obtain ⟨_, _, c0⟩ := World.cells?_some (hy 0 h0').2
      obtain ⟨ab, ao, asp⟩ := a
      have hsp : asp = none := by
        have h9 := c0 0 (by omega)
        rw [Nat.zero_mul] at h9
        have e9 : ((⟨ab, ao, asp⟩ : Addr).add 0).add 0 = ⟨ab, ao, asp⟩ := by simp [Addr.add]
        rw [e9] at h9
        unfold World.cell? at h9
        cases asp with
        | none => rfl
        | some s => simp at h9; split at h9 <;> simp_all
      subst hsp
      refine ⟨ab, ao, rfl, fun i x hxi => ?_⟩
      have hil : i < len0 := by
        have := (List.getElem?_eq_some_iff.1 hxi).1
        simpa using this
      rw [List.getElem?_map, List.getElem?_range hil] at hxi
      injection hxi with hxi
      subst hxi
      obtain ⟨_, _, ci⟩ := World.cells?_some (hy i hil).2
      have ad : ∀ k, ((⟨ab, ao, none⟩ : Addr).add (i * 4)).add k = ⟨ab, ao + i * 4 + k, none⟩ := by
        intro k
        unfold Addr.add
        split <;> split <;> simp_all
      refine ⟨?_, ?_, ?_, ?_⟩
      · have := ci 0 (by omega); rw [ad] at this; simpa using this
      · have := ci 1 (by omega); rw [ad] at this; simpa using this
      · have := ci 2 (by omega); rw [ad] at this; simpa using this
      · have := ci 3 (by omega); rw [ad] at this; simpa using this
end Go.Proofs.Ytfhgnolfhiffbaa
