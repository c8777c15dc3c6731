/- law8.awake. Written by funawakegen.py. -/
import Derived.Test.YtcbaioagcemmnaaDoorFunSum
namespace Go.Proofs.YtcbaioagcemmnaaDoor
open Go.RowKit Go.Maps
/-- an argument of one value, that lies at A -/
def oneArg (A : Option Addr) (v : V3) : FArg := ⟨false, 0, A, [v], 1⟩
def argCells (a : FArg) : List Value := [.bool a.rg, .int .i64 a.cols, .slice a.A a.vs.length a.cap]
theorem argCells_get (l : List FArg) (i : Nat) (x : FArg) (h : l[i]? = some x) : (l.flatMap argCells)[i * 3]? = some (.bool x.rg) ∧ (l.flatMap argCells)[i * 3 + 1]? = some (.int .i64 x.cols) ∧ (l.flatMap argCells)[i * 3 + 2]? = some (.slice x.A x.vs.length x.cap) := by
  induction l generalizing i with
  | nil => simp at h
  | cons y r ih =>
    cases i with
    | zero => simp at h; subst h; simp [argCells]
    | succ i =>
      obtain ⟨h0, h1, h2⟩ := ih i (by simpa using h)
      have e : (y :: r).flatMap argCells = [.bool y.rg, .int .i64 y.cols, .slice y.A y.vs.length y.cap] ++ r.flatMap argCells := by simp [argCells]
      rw [e]
      refine ⟨?_, ?_, ?_⟩
      · rw [List.getElem?_append_right (by simp; omega)]; rw [← h0]; congr 1; simp; omega
      · rw [List.getElem?_append_right (by simp; omega)]; rw [← h1]; congr 1; simp; omega
      · rw [List.getElem?_append_right (by simp; omega)]; rw [← h2]; congr 1; simp; omega
/-- arguments that stand in a literal's block -/
theorem atA_lit {W : World} {G : Nat} {l : List FArg} {cs : Array Value} (hl : l.length ≤ 100) (hG : W.heap[G]? = some (.cells cs 27 (0, 0))) (hc : cs.toList = l.flatMap argCells) (hv : ∀ a ∈ l, AtV W a.A a.vs) : AtA W (some ⟨G, 0, none⟩) l := by
  refine ⟨by omega, hv, fun _ => ⟨G, 0, rfl, fun i x hx => ?_⟩⟩
  obtain ⟨h0, h1, h2⟩ := argCells_get l i x hx
  rw [← hc] at h0 h1 h2
  simp only [Array.getElem?_toList] at h0 h1 h2
  rw [Nat.zero_add]
  exact ⟨by simp [World.cell?, hG, h0], by simp [World.cell?, hG, h1], by simp [World.cell?, hG, h2]⟩
set_option maxRecDepth 100000 in
set_option maxHeartbeats 4000000 in
theorem awake8 (w : World) : Calls Tryd.prog 9 #[] w fun e w' => e = .returned (.bool true) ∧ Below w.heap.size w w' := by
  go_enter Tryd.func9, Tryd.ntmps9
  go_wp2_with fail
  refine (lone_any w 1 1 ⟨#[]⟩).mono ?_
  rintro e w1 ⟨g1, rfl, hb1, hv1⟩
  go_wp2_with fail
  refine (lone_any w1 1 2 ⟨#[]⟩).mono ?_
  rintro e w2 ⟨g2, rfl, hb2, hv2⟩
  have hv1 := hv1.below hb2
  have hb3 := hb1.trans (hb2.mono hb1.size)
  clear hb1 hb2
  go_wp2_with fail
  have hz := heap_alloc_new w2 (.cells #[.bool false, .int .i64 0, .slice (some ⟨g1, 0, none⟩) 1 1, .bool false, .int .i64 0, .slice (some ⟨g2, 0, none⟩) 1 1] 27)
  have hb4 := hb3.alloc hb3.size (.cells #[.bool false, .int .i64 0, .slice (some ⟨g1, 0, none⟩) 1 1, .bool false, .int .i64 0, .slice (some ⟨g2, 0, none⟩) 1 1] 27)
  have hA : AtA (w2.alloc (.cells #[.bool false, .int .i64 0, .slice (some ⟨g1, 0, none⟩) 1 1, .bool false, .int .i64 0, .slice (some ⟨g2, 0, none⟩) 1 1] 27)) (some ⟨w2.heap.size, 0, none⟩) [oneArg (some ⟨g1, 0, none⟩) (1, 1, ⟨#[]⟩), oneArg (some ⟨g2, 0, none⟩) (1, 2, ⟨#[]⟩)] :=
    atA_lit (by simp) hz rfl (fun a ha => by
      simp only [List.mem_cons, List.not_mem_nil, or_false] at ha
      rcases ha with rfl | rfl
      · exact hv1.below ((Below.refl _ _).alloc (Nat.le_refl _) _)
      · exact hv2.below ((Below.refl _ _).alloc (Nat.le_refl _) _))
  have hint : intsOf [oneArg (some ⟨g1, 0, none⟩) (1, 1, ⟨#[]⟩), oneArg (some ⟨g2, 0, none⟩) (1, 2, ⟨#[]⟩)] = [(1, 1, ⟨#[]⟩), (1, 2, ⟨#[]⟩)] := rfl
  have hsum := fun W (hW : Below (w2.alloc (.cells #[.bool false, .int .i64 0, .slice (some ⟨g1, 0, none⟩) 1 1, .bool false, .int .i64 0, .slice (some ⟨g2, 0, none⟩) 1 1] 27)).heap.size (w2.alloc (.cells #[.bool false, .int .i64 0, .slice (some ⟨g1, 0, none⟩) 1 1, .bool false, .int .i64 0, .slice (some ⟨g2, 0, none⟩) 1 1] 27)) W) => sum_any W _ _ 2 (hA.below hW) (fun a ha v hv => by
      simp only [List.mem_cons, List.not_mem_nil, or_false] at ha
      rcases ha with rfl | rfl <;> (simp only [oneArg, List.mem_cons, List.not_mem_nil, or_false] at hv; subst hv; exact .inl rfl)) (by simp [oneArg]) (fun v hv => by
      rw [hint] at hv
      simp only [List.mem_cons, List.not_mem_nil, or_false] at hv
      rcases hv with rfl | rfl <;> exact ⟨by decide, by decide⟩) (fun k => by
      rw [hint]
      rcases k with _ | _ | k <;> exact ⟨by simp [psum], by simp [psum]⟩)
  rw [hint] at hsum
  refine (call_any _ _ _ 2 ⟨#[83, 85, 77]⟩ (by unfold maxLen; decide) 1 9223372036854775807 true true 17 (by kernel_rfl) hA (by simp) (by simp) (fun a ha => by
      simp only [List.mem_cons, List.not_mem_nil, or_false] at ha
      rcases ha with rfl | rfl <;> exact ⟨fun h => rfl, fun _ => rfl⟩) (fun a ha v hv _ => by
      simp only [List.mem_cons, List.not_mem_nil, or_false] at ha
      rcases ha with rfl | rfl <;> (simp only [oneArg, List.mem_cons, List.not_mem_nil, or_false] at hv; subst hv; decide)) 1 3 ⟨#[]⟩ (fun us W => run_enter Tryd.func17 (by kernel_rfl) rfl us W) hsum).mono ?_
  rintro e w3 ⟨rfl, hb5⟩
  have hb6 := hb4.trans (hb5.mono hb4.size)
  clear hz hA hint hsum hv1 hv2 hb3 hb4 hb5
  have hb7 := hb6.alloc hb6.size (.cells #[.int .i64 1, .int .i64 3, .string ⟨#[]⟩] 31)
  go_wp2
  go_ret
  exact ⟨rfl, hb7⟩
end Go.Proofs.YtcbaioagcemmnaaDoor
