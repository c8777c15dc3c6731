/- The memory of past.Log: two maps, the queue, what is told. -/
import Derived.Test.YtfhgnolfhiffbaaPLogLaw
namespace Go.Proofs.Ytfhgnolfhiffbaa
open Go.RowKit Go.Maps
def hasB (S : List ByteArray) (p : ByteArray) : Bool := S.any fun y => decide (y = p)
theorem hasB_iff {S : List ByteArray} {p : ByteArray} : hasB S p = true ↔ p ∈ S := by simp [hasB]
theorem hasB_no {S : List ByteArray} {p : ByteArray} : hasB S p = false ↔ p ∉ S := by rw [← hasB_iff, Bool.not_eq_true]
def seenF (S : List ByteArray) : ByteArray → Option Value := fun s => if hasB S s = true then some (.bool true) else none
theorem seenF_congr {S T : List ByteArray} (h : ∀ s, s ∈ S ↔ s ∈ T) : seenF S = seenF T := by
  funext s
  unfold seenF
  have : hasB S s = hasB T s := by rw [Bool.eq_iff_iff, hasB_iff, hasB_iff]; exact h s
  rw [this]
theorem seenF_set {S T : List ByteArray} {p : ByteArray} (h : ∀ s, s ∈ T ↔ s ∈ S ∨ s = p) : setF (seenF S) p (.bool true) = seenF T := by
  funext s
  unfold setF seenF
  by_cases e : s = p
  · rw [if_pos e, if_pos (hasB_iff.2 ((h s).2 (.inr e)))]
  · rw [if_neg e]
    have : hasB S s = hasB T s := by
      rw [Bool.eq_iff_iff, hasB_iff, hasB_iff, h s]
      exact ⟨fun h2 => .inl h2, fun h2 => h2.resolve_right e⟩
    rw [this]
theorem get_seen (S : List ByteArray) (p : ByteArray) : getV (seenF S) p (.bool false) false = .bool (hasB S p) := by
  unfold getV seenF
  cases hasB S p <;> rfl
theorem zBool (w : World) : (zeroValue 4).run Try.prog w = .ok (.bool false) w := by kernel_rfl
theorem MapF.kind {w : World} {b n : Nat} {D : DataW Value} {f : ByteArray → Option Value} (h : MapF w b n D f) : ∃ o : Obj, w.heap[b]? = some o ∧ ∀ cs t fr, o ≠ .cells cs t fr := by
  obtain ⟨es, clock, hb, r⟩ := h.own
  exact ⟨_, hb, fun _ _ _ e => by cases e⟩
theorem map_ne_cells {w : World} {b g : Nat} {o : Obj} {cs : Array Value} {t : TypeId} {fr : Nat × Nat} (h : w.heap[b]? = some o) (ho : ∀ cs t fr, o ≠ .cells cs t fr) (k : w.heap[g]? = some (.cells cs t fr)) : b ≠ g := by
  intro e
  subst e
  rw [h] at k
  injection k with k
  exact ho _ _ _ k
theorem own_kind' {w : World} {base n size : Nat} {e : TypeId} {v : Value} {xs : List Value} (h : w.ownsRow base e size v n xs) {k : Nat} (hk : v.ownBlock = some k) : (∃ cur, w.heap[k]? = some (.cells cur e (0, 0))) ∧ base ≤ k := by
  rcases h.2 with ⟨rfl, _⟩ | ⟨g, cap, cur, rfl, hb, hg, _⟩
  · simp [Value.ownBlock] at hk
  · simp [Value.ownBlock] at hk; subst hk; exact ⟨⟨cur, hg⟩, hb⟩
theorem own_kept' {w w' : World} {base n size : Nat} {e : TypeId} {v : Value} {xs : List Value} (h : w.ownsRow base e size v n xs) (hk : ∀ g cur, v.ownBlock = some g → w.heap[g]? = some (.cells cur e (0, 0)) → w'.heap[g]? = w.heap[g]?) : w'.ownsRow base e size v n xs := by
  refine ⟨h.1, ?_⟩
  rcases h.2 with k | ⟨g, cap, cur, hv, hg, hh, r⟩
  · exact .inl k
  · exact .inr ⟨g, cap, cur, hv, hg, (hk g cur (by rw [hv]; rfl) hh).trans hh, r⟩
structure LM (w0 w : World) (l : List HC) (b1 b2 Q n2 : Nat) (v : Value) (q : List Nd) (vo : Value) (out S : List ByteArray) : Prop where
  m1 : ∃ n D, MapF w b1 n D (asV (depF l))
  m2 : ∃ D, MapF w b2 n2 D (seenF S)
  qs : QS w Q w0.heap.size v q
  ow : w.ownsRow w0.heap.size 9 1 vo out.length (out.map vStr)
  be : Below w0.heap.size w0 w
  ne : b1 ≠ b2
  hb : w0.heap.size ≤ Q ∧ w0.heap.size ≤ b2
section
variable {w0 w w' : World} {l : List HC} {b1 b2 Q n2 : Nat} {v v' : Value} {q q' : List Nd} {vo : Value} {out S : List ByteArray}
theorem LM.below (h : LM w0 w l b1 b2 Q n2 v q vo out S) (hb : Below w.heap.size w w') : LM w0 w' l b1 b2 Q n2 v q vo out S := by
  obtain ⟨n, D, h1⟩ := h.m1
  obtain ⟨D2, h2⟩ := h.m2
  exact ⟨⟨n, D, h1.below hb⟩, ⟨D2, h2.below hb⟩, h.qs.below hb, own_kept' h.ow (fun g cur _ hg => hb.block g (Array.getElem?_eq_some_iff.1 hg).1), h.be.trans (hb.mono h.be.size), h.ne, h.hb⟩
/-- behind an operation on the queue -/
theorem LM.queue (h : LM w0 w l b1 b2 Q n2 v q vo out S) (hq : QS w' Q w0.heap.size v' q') (hm : QM Q w v w' v') : LM w0 w' l b1 b2 Q n2 v' q' vo out S := by
  obtain ⟨n, D, h1⟩ := h.m1
  obtain ⟨D2, h2⟩ := h.m2
  have hmap : ∀ (b : Nat) (o : Obj), w.heap[b]? = some o → (∀ cs t fr, o ≠ .cells cs t fr) → w'.heap[b]? = w.heap[b]? := fun b o hk ho =>
    hm.block b (Array.getElem?_eq_some_iff.1 hk).1 (map_ne_cells hk ho h.qs.cell) (fun e => by
      obtain ⟨⟨cur, hc⟩, _⟩ := own_kind' h.qs.own e
      exact map_ne_cells hk ho hc rfl)
  obtain ⟨o1, k1, p1⟩ := h1.kind
  obtain ⟨o2, k2, p2⟩ := h2.kind
  refine ⟨⟨n, D, h1.kept (hmap _ _ k1 p1)⟩, ⟨D2, h2.kept (hmap _ _ k2 p2)⟩, hq, own_kept' h.ow (fun g cur _ hg => hm.block g (Array.getElem?_eq_some_iff.1 hg).1 (fun e => ?_) (fun e => ?_)), ?_, h.ne, h.hb⟩
  · subst e
    rw [h.qs.cell] at hg
    injection hg with hg
    injection hg with _ hg
    exact absurd hg (by decide)
  · obtain ⟨⟨cur2, hc⟩, _⟩ := own_kind' h.qs.own e
    rw [hc] at hg
    injection hg with hg
    injection hg with _ hg
    exact absurd hg (by decide)
  · refine ⟨hm.os.trans h.be.os, hm.tape.trans h.be.tape, hm.output.trans h.be.output, Nat.le_trans h.be.size hm.size, fun k hk => ?_⟩
    have hs := h.be.size
    refine (hm.block k (Nat.lt_of_lt_of_le hk hs) (fun e => ?_) (fun e => ?_)).trans (h.be.block k hk)
    · have := h.hb.1; omega
    · have := (own_kind' h.qs.own e).2; omega
/-- behind an update of the map of what has been seen -/
theorem LM.see (h : LM w0 w l b1 b2 Q n2 v q vo out S) {D' : DataW Value} {T : List ByteArray} {m : Nat} (h2 : MapF w' b2 m D' (seenF T)) (hg : w.grownBy w' (some b2)) : LM w0 w' l b1 b2 Q m v q vo out T := by
  obtain ⟨n, D, h1⟩ := h.m1
  obtain ⟨D2, h2'⟩ := h.m2
  obtain ⟨o2, k2, p2⟩ := h2'.kind
  have hcell : ∀ (g : Nat) (cs : Array Value) (t : TypeId), w.heap[g]? = some (.cells cs t (0, 0)) → w'.heap[g]? = w.heap[g]? := fun g cs t hk =>
    hg.block g (Array.getElem?_eq_some_iff.1 hk).1 (fun e => map_ne_cells k2 p2 hk (Option.some.inj e).symm)
  refine ⟨⟨n, D, h1.kept (hg.block _ h1.lt (fun e => h.ne (Option.some.inj e)))⟩, ⟨D', h2⟩, ⟨(hcell _ _ _ h.qs.cell).trans h.qs.cell, own_kept' h.qs.own (fun g cur _ hc => hcell _ _ _ hc)⟩, own_kept' h.ow (fun g cur _ hc => hcell _ _ _ hc), below_mapU h.be hg h.hb.2 h.be.size, h.ne, h.hb⟩
/-- behind an append to what is told -/
theorem LM.tell (h : LM w0 w l b1 b2 Q n2 v q vo out S) {vo' : Value} {x : ByteArray} (ho : w'.ownsRow w0.heap.size 9 1 vo' (out.length + 1) (out.map vStr ++ [vStr x])) (hg : w.grownBy w' vo.ownBlock) : LM w0 w' l b1 b2 Q n2 v q vo' (out ++ [x]) S := by
  obtain ⟨n, D, h1⟩ := h.m1
  obtain ⟨D2, h2⟩ := h.m2
  obtain ⟨o1, k1, p1⟩ := h1.kind
  obtain ⟨o2, k2, p2⟩ := h2.kind
  have hmap : ∀ (b : Nat) (o : Obj), w.heap[b]? = some o → (∀ cs t fr, o ≠ .cells cs t fr) → w'.heap[b]? = w.heap[b]? := fun b o hk ho =>
    hg.block b (Array.getElem?_eq_some_iff.1 hk).1 (fun e => by
      obtain ⟨⟨cur, hc⟩, _⟩ := own_kind' h.ow e.symm
      exact map_ne_cells hk ho hc rfl)
  have hcell : ∀ (g : Nat) (cs : Array Value) (t : TypeId), t ≠ 9 → w.heap[g]? = some (.cells cs t (0, 0)) → w'.heap[g]? = w.heap[g]? := fun g cs t hne hk =>
    hg.block g (Array.getElem?_eq_some_iff.1 hk).1 (fun e => by
      obtain ⟨⟨cur, hc⟩, _⟩ := own_kind' h.ow e.symm
      rw [hk] at hc
      injection hc with hc
      injection hc with _ hc
      exact hne hc)
  refine ⟨⟨n, D, h1.kept (hmap _ _ k1 p1)⟩, ⟨D2, h2.kept (hmap _ _ k2 p2)⟩, ⟨(hcell _ _ _ (by decide) h.qs.cell).trans h.qs.cell, own_kept' h.qs.own (fun g cur _ hc => hcell _ _ _ (by decide) hc)⟩, by rw [List.length_append, List.map_append]; exact ho, below_grown h.be h.ow hg (Nat.le_refl _) h.be.size, h.ne, h.hb⟩
theorem LM.seenAs (h : LM w0 w l b1 b2 Q n2 v q vo out S) {T : List ByteArray} (e : ∀ s, s ∈ S ↔ s ∈ T) : LM w0 w l b1 b2 Q n2 v q vo out T := by
  obtain ⟨D2, h2⟩ := h.m2
  exact ⟨h.m1, ⟨D2, by rw [← seenF_congr e]; exact h2⟩, h.qs, h.ow, h.be, h.ne, h.hb⟩
end
end Go.Proofs.Ytfhgnolfhiffbaa
