/- What chequerlaw25.Make makes: its memory, and that it is a history. -/
import Derived.Test.YtfhgnolfhiffbaaPBase
import Derived.Test.YtfhgnolfhiffbaaPlanT
import Derived.Test.YtfhgnolfhiffbaaAppN
namespace Go.Proofs.Ytfhgnolfhiffbaa
open Go.RowKit Go.Maps
def idN (n : Nat) : ByteArray := ⟨#[UInt8.ofNat (65 + (n * 7) % 26), UInt8.ofNat (48 + n % 10), UInt8.ofNat (48 + n / 10)]⟩
def cellsC (L : List HC) : List Value := L.flatMap fun c => [.string c.id, .slice c.A c.ps.length c.cap, .slice none 0 0, .string ⟨#[]⟩]
/-- what Make makes -/
structure Made (L : List HC) : Prop where
  len : L.length ≤ 20
  ids : ∀ k c, L[k]? = some c → c.id = idN k
  ps : ∀ k c, L[k]? = some c → ∀ p ∈ c.ps, ∃ j < k, p = idN j
  two : ∀ c ∈ L, c.ps.length ≤ 2 ∧ c.ps.Nodup
theorem at1_alloc {α : Type} {f : α → Value} (W : World) (l : List α) (cs : Array Value) (e : TypeId) (hcs : cs = (l.map f).toArray) (hl : l.length ≤ 9223372036854775807) : At1 f (W.alloc (.cells cs e)) (some ⟨W.heap.size, 0, none⟩) l := by
  refine ⟨hl, fun _ => ⟨_, rfl, fun i x hx => ?_⟩⟩
  have h9 := heap_alloc_new W (.cells cs e)
  subst hcs
  by_cases h0 : i = 0
  · subst h0
    show World.cell? _ ⟨W.heap.size, 0, none⟩ = _
    unfold World.cell?
    rw [h9]
    simp [hx]
  · have e1 : (⟨W.heap.size, 0, none⟩ : Addr).add i = ⟨W.heap.size, i, none⟩ := by unfold Addr.add; split <;> simp_all
    rw [e1]
    unfold World.cell?
    rw [h9]
    simp [hx]
def byt (n : Nat) : List UInt8 := [UInt8.ofNat (65 + (n * 7) % 26), UInt8.ofNat (48 + n % 10), UInt8.ofNat (48 + n / 10)]
theorem idN_conv (W : World) {n : Nat} (h : n < 20) : (convert 22 9 (.slice (some ⟨W.heap.size, 0, none⟩) 3 3)).run Try.prog (W.alloc (.cells #[.int .u8 (65 + (n : Int) * 7 % 26), .int .u8 (48 + (n : Int) % 10), .int .u8 (48 + (n : Int) / 10)] 5)) = .ok (.string (idN n)) (W.alloc (.cells #[.int .u8 (65 + (n : Int) * 7 % 26), .int .u8 (48 + (n : Int) % 10), .int .u8 (48 + (n : Int) / 10)] 5)) := by
  have e1 : ((UInt8.ofNat (65 + (n * 7) % 26)).toNat : Int) = 65 + (n : Int) * 7 % 26 := by rw [UInt8.toNat_ofNat', Nat.mod_eq_of_lt (by omega)]; push_cast; rfl
  have e2 : ((UInt8.ofNat (48 + n % 10)).toNat : Int) = 48 + (n : Int) % 10 := by rw [UInt8.toNat_ofNat', Nat.mod_eq_of_lt (by omega)]; push_cast; rfl
  have e3 : ((UInt8.ofNat (48 + n / 10)).toNat : Int) = 48 + (n : Int) / 10 := by rw [UInt8.toNat_ofNat', Nat.mod_eq_of_lt (by omega)]; push_cast; rfl
  refine run_str_of (P := Try.prog) (l := byt n) Try.underlying22 Try.underlying5 Try.underlying9 rfl (at1_alloc W (byt n) _ _ ?_ (by simp [byt]))
  rw [← e1, ← e2, ← e3]
  rfl
structure MK (w wr : World) (v : Value) (L : List HC) : Prop where
  ow : wr.ownsRow w.heap.size 31 4 v L.length (cellsC L)
  ps : ∀ c ∈ L, wr.ownsRow w.heap.size 9 1 (.slice c.A c.ps.length c.cap) c.ps.length (c.ps.map vStr)
  bare : ∀ c ∈ L, c.Z = none ∧ c.zn = 0 ∧ c.zc = 0 ∧ c.note = ⟨#[]⟩
  be : Below w.heap.size w wr
  made : Made L
theorem eCommit : EInfo Try.prog 23 31 (.agg #[.string ⟨#[]⟩, .slice none 0 0, .slice none 0 0, .string ⟨#[]⟩]) 4 80 := ⟨Try.underlying23, by kernel_rfl, rfl, by decide, by decide⟩
theorem MK.below {w wr wz : World} {v : Value} {L : List HC} (h : MK w wr v L) (hb : Below wr.heap.size wr wz) : MK w wz v L :=
  ⟨own_kept' h.ow (fun g _ _ hg => hb.block g (Array.getElem?_eq_some_iff.1 hg).1), fun c hc => own_kept' (h.ps c hc) (fun g _ _ hg => hb.block g (Array.getElem?_eq_some_iff.1 hg).1), h.bare, h.be.trans (hb.mono h.be.size), h.made⟩
theorem cellsC_snoc (L : List HC) (c : HC) : cellsC (L ++ [c]) = cellsC L ++ [.string c.id, .slice c.A c.ps.length c.cap, .slice none 0 0, .string ⟨#[]⟩] := by
  unfold cellsC
  rw [List.flatMap_append]
  rfl
theorem MK.snoc {w wz w9 : World} {v v' : Value} {L : List HC} (h : MK w wz v L) {A : Option Addr} {ps : List ByteArray} {cap n : Nat} (hn : L.length = n) (hn20 : n < 20)
    (hps : wz.ownsRow w.heap.size 9 1 (.slice A ps.length cap) ps.length (ps.map vStr)) (hp : ∀ p ∈ ps, ∃ j < n, p = idN j) (h2 : ps.length ≤ 2 ∧ ps.Nodup)
    (ho : w9.ownsRow w.heap.size 31 4 v' (n + 1) (cellsC L ++ [.string (idN n), .slice A ps.length cap, .slice none 0 0, .string ⟨#[]⟩])) (hg : wz.grownBy w9 v.ownBlock) : ∃ M, M.length = n + 1 ∧ MK w w9 v' M := by
  subst hn
  have hl : (L ++ [(⟨idN L.length, A, ps, cap, none, 0, 0, ⟨#[]⟩⟩ : HC)]).length = L.length + 1 := by simp
  have hkeep : ∀ {v : Value} {k : Nat} {xs : List Value}, wz.ownsRow w.heap.size 9 1 v k xs → w9.ownsRow w.heap.size 9 1 v k xs := fun hx =>
    own_kept' hx (fun g cur _ hgc => (grown_block h.ow hgc (by decide) hg).trans hgc.symm)
  refine ⟨L ++ [⟨idN L.length, A, ps, cap, none, 0, 0, ⟨#[]⟩⟩], hl, ⟨by rw [hl, cellsC_snoc]; exact ho, fun c hc => ?_, fun c hc => ?_, below_grown h.be h.ow hg (Nat.le_refl _) h.be.size, ⟨by rw [hl]; omega, fun k c hk => ?_, fun k c hk => ?_, fun c hc => ?_⟩⟩⟩
  · rcases List.mem_append.1 hc with hc | hc
    · exact hkeep (h.ps c hc)
    · simp only [List.mem_cons, List.not_mem_nil, or_false] at hc; subst hc; exact hkeep hps
  · rcases List.mem_append.1 hc with hc | hc
    · exact h.bare c hc
    · simp only [List.mem_cons, List.not_mem_nil, or_false] at hc; subst hc; exact ⟨rfl, rfl, rfl, rfl⟩
  · rcases Nat.lt_or_ge k L.length with hk1 | hk1
    · rw [List.getElem?_append_left hk1] at hk; exact h.made.ids k c hk
    · have hk2 := (List.getElem?_eq_some_iff.1 hk).1
      obtain rfl : k = L.length := by omega
      simp at hk; subst hk; rfl
  · rcases Nat.lt_or_ge k L.length with hk1 | hk1
    · rw [List.getElem?_append_left hk1] at hk; exact h.made.ps k c hk
    · have hk2 := (List.getElem?_eq_some_iff.1 hk).1
      obtain rfl : k = L.length := by omega
      simp at hk; subst hk; exact hp
  · rcases List.mem_append.1 hc with hc | hc
    · exact h.made.two c hc
    · simp only [List.mem_cons, List.not_mem_nil, or_false] at hc; subst hc; exact h2
theorem own_cellN {w : World} {base n size c : Nat} {e : TypeId} {A : Option Addr} {xs : List Value} (h : w.ownsRow base e size (.slice A n c) n xs) {i : Nat} {u : Value} (hi : xs[i]? = some u) : ∃ g, A = some ⟨g, 0, none⟩ ∧ w.cell? ⟨g, i, none⟩ = some u := by
  rcases h.2 with ⟨h1, h2⟩ | ⟨g, cap, cur, hv, hb, hg, hcap, _, hsz, ht⟩
  · subst h2
    have h3 := h.1
    have h4 := (List.getElem?_eq_some_iff.1 hi).1
    rw [h3] at h4
    simp at h4
  · injection hv with hA _ _
    refine ⟨g, hA, ?_⟩
    unfold World.cell?
    rw [hg]
    rw [← ht] at hi
    have h4 := (List.getElem?_eq_some_iff.1 hi).1
    rw [List.length_take] at h4
    rw [List.getElem?_take, if_pos (by omega)] at hi
    simpa using hi
theorem cellsC_get (l : List HC) (i : Nat) (v : HC) (h : l[i]? = some v) : (cellsC l)[i * 4]? = some (.string v.id) ∧ (cellsC l)[i * 4 + 1]? = some (.slice v.A v.ps.length v.cap) ∧ (cellsC l)[i * 4 + 2]? = some (.slice none 0 0) ∧ (cellsC l)[i * 4 + 3]? = some (.string ⟨#[]⟩) := by
  induction l generalizing i with
  | nil => simp at h
  | cons x r ih =>
    cases i with
    | zero => simp at h; subst h; simp [cellsC]
    | succ i =>
      obtain ⟨h0, h1, h2, h3⟩ := ih i (by simpa using h)
      have e : cellsC (x :: r) = [.string x.id, .slice x.A x.ps.length x.cap, .slice none 0 0, .string ⟨#[]⟩] ++ cellsC r := by simp [cellsC]
      rw [e]
      refine ⟨?_, ?_, ?_, ?_⟩
      · rw [List.getElem?_append_right (by simp; omega)]; rw [← h0]; congr 1; simp; omega
      · rw [List.getElem?_append_right (by simp; omega)]; rw [← h1]; congr 1; simp; omega
      · rw [List.getElem?_append_right (by simp; omega)]; rw [← h2]; congr 1; simp; omega
      · rw [List.getElem?_append_right (by simp; omega)]; rw [← h3]; congr 1; simp; omega
theorem MK.atC {w wr : World} {A : Option Addr} {c : Nat} {L : List HC} (h : MK w wr (.slice A L.length c) L) : AtC wr A L := by
  have hl := h.made.len
  refine ⟨by omega, fun y hy => At1.of_own (n := y.ps.length) (h.ps y hy) (by have := (h.made.two y hy).1; omega), fun h0 => ?_⟩
  obtain ⟨y0, hy0⟩ : ∃ y0, L[0]? = some y0 := ⟨_, List.getElem?_eq_getElem h0⟩
  obtain ⟨g, hA, _⟩ := own_cellN h.ow (cellsC_get L 0 y0 hy0).1
  refine ⟨g, 0, hA, fun i x hx => ?_⟩
  obtain ⟨c0, c1, c2, c3⟩ := cellsC_get L i x hx
  obtain ⟨b1, b2, b3, b4⟩ := h.bare x (List.mem_of_getElem? hx)
  have e : ∀ k, (0 + i * 4 + k) = i * 4 + k := fun k => by omega
  rw [b1, b2, b3, b4, e, e, e, Nat.zero_add]
  refine ⟨?_, ?_, ?_, ?_⟩
  · obtain ⟨g2, hA2, k⟩ := own_cellN h.ow c0; rw [hA] at hA2; cases hA2; exact k
  · obtain ⟨g2, hA2, k⟩ := own_cellN h.ow c1; rw [hA] at hA2; cases hA2; exact k
  · obtain ⟨g2, hA2, k⟩ := own_cellN h.ow c2; rw [hA] at hA2; cases hA2; exact k
  · obtain ⟨g2, hA2, k⟩ := own_cellN h.ow c3; rw [hA] at hA2; cases hA2; exact k
theorem idN_inj {i j : Nat} (hi : i < 20) (hj : j < 20) (h : idN i = idN j) : i = j := by
  unfold idN at h
  injection h with h
  injection h with h
  injection h with _ h
  injection h with h1 h
  injection h with h2 _
  have e1 := congrArg UInt8.toNat h1
  have e2 := congrArg UInt8.toNat h2
  rw [UInt8.toNat_ofNat', UInt8.toNat_ofNat'] at e1 e2
  omega
theorem Made.pos {L : List HC} (h : Made L) {k : Nat} {c : HC} (hk : L[k]? = some c) : posN (idsOf L) c.id = k := by
  have hlt := (List.getElem?_eq_some_iff.1 hk).1
  have hl := h.len
  have hin : c.id ∈ idsOf L := List.mem_map.2 ⟨c, List.mem_of_getElem? hk, rfl⟩
  obtain ⟨y, hy, he⟩ := posN_id (mem_ids.1 hin)
  have h3 := (List.getElem?_eq_some_iff.1 hy).1
  obtain ⟨m, hm⟩ : ∃ m, posN (idsOf L) c.id = m := ⟨_, rfl⟩
  rw [hm] at hy h3 ⊢
  have h1 := h.ids _ _ hy
  have h2 := h.ids _ _ hk
  rw [he, h2] at h1
  exact (idN_inj (by omega) (by omega) h1).symm
theorem Made.hist {L : List HC} (h : Made L) : HistIn L := by
  have hl := h.len
  refine ⟨⟨fun i c hc => h.pos hc, fun i c hc p hp => ?_⟩, fun y hy => ?_, by omega⟩
  · obtain ⟨j, hj, rfl⟩ := h.ps i c hc p hp
    have hi := (List.getElem?_eq_some_iff.1 hc).1
    obtain ⟨y, hy⟩ : ∃ y, L[j]? = some y := ⟨_, List.getElem?_eq_getElem (by omega)⟩
    have := h.pos hy
    rw [h.ids _ _ hy] at this
    omega
  · obtain ⟨k, hk⟩ := List.mem_iff_getElem?.1 hy
    have e : ∀ n, (idN n).size ≤ maxLen := fun n => by show 3 ≤ maxLen; unfold maxLen; decide
    refine ⟨by rw [h.ids _ _ hk]; exact e _, fun p hp => ?_⟩
    obtain ⟨j, _, rfl⟩ := h.ps _ _ hk p hp
    exact e _
end Go.Proofs.Ytfhgnolfhiffbaa
