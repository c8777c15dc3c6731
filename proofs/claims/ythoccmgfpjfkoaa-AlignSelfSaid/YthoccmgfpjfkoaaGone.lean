/- What lies in memory while two sheets grow row by row. -/
import Derived.Test.YthoccmgfpjfkoaaAlignRows
import Derived.Test.YthoccmgfpjfkoaaDigits
namespace Go.Proofs.Ythoccmgfpjfkoaa
open Go.RowKit

theorem eRow : EInfo Try.prog 22 26 (.slice none 0 0) 1 24 := ⟨Try.underlying22, by kernel_rfl, rfl, by decide, by decide⟩

/-- a row of one text in a block of its own -/
def RowOk (W : World) (x : SRow) : Prop := ∃ g s, x = ⟨some ⟨g, 0, none⟩, [s], 1⟩ ∧ W.heap[g]? = some (.cells #[.string s] 9 (0, 0))
theorem RowOk.at1 {W : World} {x : SRow} (h : RowOk W x) : At1 vStr W x.A x.l := by
  obtain ⟨g, s, rfl, hg⟩ := h
  exact at1_lit (by simp) hg (fun i y hy => by
    match i, hy with
    | 0, hy => simp at hy; subst hy; rfl
    | i + 1, hy => simp at hy)

theorem own_kind {w : World} {base n size : Nat} {e : TypeId} {v : Value} {xs : List Value} (h : w.ownsRow base e size v n xs) {k : Nat} (hk : v.ownBlock = some k) : ∃ cur, w.heap[k]? = some (.cells cur e (0, 0)) := by
  rcases h.2 with ⟨rfl, _⟩ | ⟨g, cap, cur, rfl, hb, hg, _⟩
  · simp [Value.ownBlock] at hk
  · simp [Value.ownBlock] at hk; subst hk; exact ⟨cur, hg⟩
theorem own_ne_kind {w : World} {base n size g : Nat} {e e' : TypeId} {v : Value} {xs : List Value} {cs : Array Value} {fr : Nat × Nat} (h : w.ownsRow base e size v n xs) (hg : w.heap[g]? = some (.cells cs e' fr)) (hne : e' ≠ e) : v.ownBlock ≠ some g := fun hk => by
  obtain ⟨cur, hc⟩ := own_kind h hk
  rw [hg] at hc
  injection hc with hc
  injection hc with _ hc
  exact hne hc
theorem grown_block {w w' : World} {base n size g : Nat} {e e' : TypeId} {v : Value} {xs : List Value} {cs : Array Value} {fr : Nat × Nat} (h : w.ownsRow base e size v n xs) (hg : w.heap[g]? = some (.cells cs e' fr)) (hne : e' ≠ e) (hw : w.grownBy w' v.ownBlock) : w'.heap[g]? = some (.cells cs e' fr) :=
  (hw.block g (Array.getElem?_eq_some_iff.1 hg).1 (fun e => own_ne_kind h hg hne e.symm)).trans hg
theorem apart_kind {w : World} {base base' n n' size size' : Nat} {e e' : TypeId} {v v' : Value} {xs xs' : List Value} (h : w.ownsRow base e size v n xs) (h' : w.ownsRow base' e' size' v' n' xs') (hne : e ≠ e') : Apart v v' := fun k hk hk' => by
  obtain ⟨cur, hc⟩ := own_kind h hk
  exact own_ne_kind h' hc hne hk'

def nameA : ByteArray := ⟨#[65]⟩
structure GSt (w : World) (SA SB : Nat) (va vb vw : Value) (ra rb : List SRow) (ws : List Int) (W : World) : Prop where
  sa : W.heap[SA]? = some (.cells #[.string ⟨#[65]⟩, .int .i64 1, va] 24 (0, 0))
  sb : W.heap[SB]? = some (.cells #[.string ⟨#[65]⟩, .int .i64 1, vb] 24 (0, 0))
  oa : W.ownsRow w.heap.size 26 1 va ra.length (ra.map vRow)
  ob : W.ownsRow w.heap.size 26 1 vb rb.length (rb.map vRow)
  ow : W.ownsRow w.heap.size 3 1 vw ws.length (ws.map vInt)
  ab : Apart va vb
  rows : ∀ x ∈ ra ++ rb, RowOk W x
  below : Below w.heap.size w W
  lim : w.heap.size ≤ SA ∧ w.heap.size ≤ SB ∧ SA ≠ SB

variable {w W W' : World} {SA SB : Nat} {va vb vw : Value} {ra rb : List SRow} {ws : List Int}
theorem GSt.keep (h : GSt w SA SB va vb vw ra rb ws W) (hb : Below W.heap.size W W') : GSt w SA SB va vb vw ra rb ws W' :=
  ⟨(hb.block _ (Array.getElem?_eq_some_iff.1 h.sa).1).trans h.sa, (hb.block _ (Array.getElem?_eq_some_iff.1 h.sb).1).trans h.sb, own_below h.oa hb, own_below h.ob hb, own_below h.ow hb, h.ab,
    fun x hx => by obtain ⟨g, s, e, hg⟩ := h.rows x hx; exact ⟨g, s, e, (hb.block _ (Array.getElem?_eq_some_iff.1 hg).1).trans hg⟩, h.below.trans (hb.mono h.below.size), h.lim⟩
theorem GSt.swap (h : GSt w SA SB va vb vw ra rb ws W) : GSt w SB SA vb va vw rb ra ws W :=
  ⟨h.sb, h.sa, h.ob, h.oa, h.ow, h.ab.symm, fun x hx => h.rows x (by simp at hx ⊢; exact hx.symm), h.below, ⟨h.lim.2.1, h.lim.1, Ne.symm h.lim.2.2⟩⟩
theorem GSt.appendA {va' : Value} {x : SRow} {G : Nat} (h : GSt w SA SB va vb vw ra rb ws W) (hx : RowOk W x) (hown : W'.ownsRow w.heap.size 26 1 va' (ra.length + 1) (ra.map vRow ++ [vRow x])) (hg : W.grownBy W' va.ownBlock)
    (hk : va'.ownBlock = va.ownBlock ∨ va'.ownBlock = some G) (hG : W.heap.size ≤ G) : GSt w SA SB va' vb vw (ra ++ [x]) rb ws (W'.setCell ⟨SA, 2, none⟩ va') := by
  have sa' := grown_block h.oa h.sa (by decide) hg
  have sb' := grown_block h.oa h.sb (by decide) hg
  have ne1 := own_ne_kind hown sa' (by decide)
  have ob' := own_other h.ob h.ab hg
  have ow' := own_other h.ow (apart_kind h.oa h.ow (by decide)) hg
  refine ⟨?_, (blkSet (by show SB ≠ SA; exact Ne.symm h.lim.2.2)).trans sb', ?_, ownsRow_setCell_other ob' (own_ne_kind ob' sa' (by decide)) _, ownsRow_setCell_other ow' (own_ne_kind ow' sa' (by decide)) _, apart_grown h.ob h.ab hk hG, fun y hy => ?_,
    (below_grown h.below h.oa hg (Nat.le_refl _) h.below.size).setCell (p := ⟨SA, 2, none⟩) h.lim.1 _, h.lim⟩
  · simp [World.setCell, Array.getElem?_modify, sa']
  · rw [List.length_append, List.map_append]
    exact ownsRow_setCell_other hown ne1 _
  · have hy' : RowOk W y := by
      rcases List.mem_append.1 hy with hy | hy
      · rcases List.mem_append.1 hy with hy | hy
        · exact h.rows y (by simp [hy])
        · simp at hy; subst hy; exact hx
      · exact h.rows y (by simp [hy])
    obtain ⟨g, s, e, hgs⟩ := hy'
    have hgs' := grown_block h.oa hgs (by decide) hg
    refine ⟨g, s, e, (blkSet ?_).trans hgs'⟩
    intro e
    have e : g = SA := e
    rw [e, sa'] at hgs'
    injection hgs' with q
    injection q with _ q
    exact absurd q (by decide)
theorem GSt.appendB {vb' : Value} {x : SRow} {G : Nat} (h : GSt w SA SB va vb vw ra rb ws W) (hx : RowOk W x) (hown : W'.ownsRow w.heap.size 26 1 vb' (rb.length + 1) (rb.map vRow ++ [vRow x])) (hg : W.grownBy W' vb.ownBlock)
    (hk : vb'.ownBlock = vb.ownBlock ∨ vb'.ownBlock = some G) (hG : W.heap.size ≤ G) : GSt w SA SB va vb' vw ra (rb ++ [x]) ws (W'.setCell ⟨SB, 2, none⟩ vb') :=
  (h.swap.appendA hx hown hg hk hG).swap
theorem GSt.appendW {vw' : Value} {z : Int} (h : GSt w SA SB va vb vw ra rb ws W) (hown : W'.ownsRow w.heap.size 3 1 vw' (ws.length + 1) (ws.map vInt ++ [.int .i64 z])) (hg : W.grownBy W' vw.ownBlock) : GSt w SA SB va vb vw' ra rb (ws ++ [z]) W' := by
  refine ⟨grown_block h.ow h.sa (by decide) hg, grown_block h.ow h.sb (by decide) hg, own_other h.oa (apart_kind h.ow h.oa (by decide)) hg, own_other h.ob (apart_kind h.ow h.ob (by decide)) hg, ?_, h.ab, fun y hy => ?_,
    below_grown h.below h.ow hg (Nat.le_refl _) h.below.size, h.lim⟩
  · rw [List.length_append, List.map_append]
    exact hown
  · obtain ⟨g, s, e, hgs⟩ := h.rows y hy
    exact ⟨g, s, e, grown_block h.ow hgs (by decide) hg⟩
end Go.Proofs.Ythoccmgfpjfkoaa
