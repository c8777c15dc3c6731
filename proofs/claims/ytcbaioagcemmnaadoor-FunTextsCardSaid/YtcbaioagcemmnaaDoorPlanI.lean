/- A region that draws its order, by STATES: an invariant for each set of listed operations. -/
import Derived.Test.YtcbaioagcemmnaaDoorPlanT
namespace Go.Proofs.YtcbaioagcemmnaaDoor
open Go.RowKit
section
variable {P : Program} {ops : Array Oper} {Q : Exit → Act → World → Prop} {md : Region.Mode}
/-- how many operations are not listed yet -/
def unlisted (listed : Array Bool) : Nat := listed.toList.count false
theorem unlisted_set {listed : Array Bool} {i : Nat} (hi : i < listed.size) (h : listed.getD i false = false) : unlisted (listed.setIfInBounds i true) + 1 = unlisted listed := by
  have h2 : listed.toList[i]'(by simpa using hi) = false := by simpa [hi] using h
  unfold unlisted
  rw [Array.toList_setIfInBounds]
  have hl : i < listed.toList.length := by simpa using hi
  rw [List.set_eq_take_append_cons_drop, if_pos hl]
  conv => rhs; rw [← List.take_append_drop i listed.toList, List.drop_eq_getElem_cons hl, h2]
  simp [List.count_append]
  omega
theorem ready_lt {listed : Array Bool} (hsz : listed.size = ops.size) {i : Nat} (h : i ∈ Region.ready md ops listed) : i < listed.size ∧ listed.getD i false = false := by
  obtain ⟨h0, o, ho, _⟩ := mem_ready.1 h
  have hi : i < ops.size := (Array.getElem?_eq_some_iff.1 ho).1
  refine ⟨by omega, ?_⟩
  cases hc : listed.getD i false with
  | false => rfl
  | true => exact (ready_not_listed h hc).elim
/-- the rule by states -/
theorem wpAny_states (Inv : Array Bool → Act → World → Prop) (hfin : ∀ listed a w, Inv listed a w → Region.ready md ops listed = [] → Q .normal a w)
    (hend : ∀ listed a w, Inv listed a w → unlisted listed = 0 → Region.ready md ops listed = [])
    (hstep : ∀ listed a w, Inv listed a w → ∀ i ∈ Region.ready md ops listed, wpOp P ops Q i (fun a' w' => Inv (listed.setIfInBounds i true) a' w') a w) :
    ∀ (fuel : Nat) (listed : Array Bool) (a : Act) (w : World), listed.size = ops.size → unlisted listed ≤ fuel → Inv listed a w → wpAny P md ops Q fuel listed a w
  | 0, listed, a, w, _, hf, h => by
    have hr := hend listed a w h (by omega)
    exact ⟨hr, hfin listed a w h hr⟩
  | fuel + 1, listed, a, w, hsz, hf, h => by
    refine ⟨hfin listed a w h, fun i hi => wpOp_mono (fun a' w' h' => ?_) (hstep listed a w h i hi)⟩
    obtain ⟨h1, h2⟩ := ready_lt hsz hi
    have := unlisted_set h1 h2
    exact wpAny_states Inv hfin hend hstep fuel _ a' w' (by simpa using hsz) (by omega) h'
/-- .. till an operation of the tail comes, S holds -/
theorem wpAnyD_states {S : World → Prop} {tail : List Nat} (Inv : Array Bool → Act → World → Prop) (hfin : ∀ listed a w, Inv listed a w → Region.ready md ops listed = [] → Q .normal a w)
    (hend : ∀ listed a w, Inv listed a w → unlisted listed = 0 → Region.ready md ops listed = [])
    (hstep : ∀ listed a w, Inv listed a w → ∀ i ∈ Region.ready md ops listed, wpOp P ops Q i (fun a' w' => (tail.contains i = false → S w') ∧ Inv (listed.setIfInBounds i true) a' w') a w) :
    ∀ (fuel : Nat) (listed : Array Bool) (a : Act) (w : World), listed.size = ops.size → unlisted listed ≤ fuel → Inv listed a w → wpAnyD P md ops Q S tail fuel listed a w
  | 0, listed, a, w, _, hf, h => by
    have hr := hend listed a w h (by omega)
    exact ⟨hr, hfin listed a w h hr⟩
  | fuel + 1, listed, a, w, hsz, hf, h => by
    refine ⟨hfin listed a w h, fun i hi => wpOp_mono (fun a' w' h' => ?_) (hstep listed a w h i hi)⟩
    obtain ⟨h1, h2⟩ := ready_lt hsz hi
    have := unlisted_set h1 h2
    split
    · exact wpAny_states Inv hfin hend (fun l a w hI i hi => wpOp_mono (fun _ _ h => h.2) (hstep l a w hI i hi)) fuel _ a' w' (by simpa using hsz) (by omega) h'.2
    · rename_i hc
      exact ⟨h'.1 (by simpa using hc), wpAnyD_states Inv hfin hend hstep fuel _ a' w' (by simpa using hsz) (by omega) h'.2⟩
end
end Go.Proofs.YtcbaioagcemmnaaDoor
