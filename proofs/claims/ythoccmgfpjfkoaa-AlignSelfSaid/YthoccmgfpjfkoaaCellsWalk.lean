/- The walk of AlignCells. Written by cellsgen.py. -/
import Derived.Test.YthoccmgfpjfkoaaCopySheet
import Derived.Test.YthoccmgfpjfkoaaSelfPlain
import Derived.Test.YthoccmgfpjfkoaaSameShift
import Derived.Test.YthoccmgfpjfkoaaGoneAwake
namespace Go.Proofs.Ythoccmgfpjfkoaa
open Go.RowKit

section
variable {W : World} {base : Nat} {v : Value} {rs : List SRow}
theorem OwnRows.grid' {A : Option Addr} {n c : Nat} (h : OwnRows W base (.slice A n c) rs) (hn : rs.length = n) (hm : Mild rs) : Grid W A rs := by
  subst hn
  exact h.grid hm.1 fun r hr => (hm.2 r hr).1
/-- a text of one row set -/
theorem OwnRows.setText {g : Nat} {r : SRow} {i : Nat} (h : OwnRows W base v rs) (hi : rs[i]? = some r) (hA : r.A = some ⟨g, 0, none⟩) (c : Nat) (s : ByteArray) :
    OwnRows (W.setCell ⟨g, c, none⟩ (.string s)) base v (rs.set i ⟨r.A, r.l.set c s, r.c⟩) := by
  have hil := (List.getElem?_eq_some_iff.1 hi).1
  have hr : r ∈ rs := List.mem_of_getElem? hi
  have hv : vRow ⟨r.A, r.l.set c s, r.c⟩ = vRow r := by unfold vRow; simp
  have hob : (vRow r).ownBlock = some g := by unfold vRow; rw [hA]; rfl
  have hrow := h.row r hr
  obtain ⟨rA, rl, rc⟩ := r
  dsimp only at hA
  subst hA
  obtain ⟨cur, hcur⟩ := own_kind hrow hob
  have hmap : (rs.set i ⟨some ⟨g, 0, none⟩, rl.set c s, rc⟩).map vRow = rs.map vRow := by
    rw [List.map_set, hv]
    apply List.ext_getElem?
    intro j
    rw [List.getElem?_set]
    split
    · rename_i e
      subst e
      split
      · rw [List.getElem?_map, hi]; rfl
      · rename_i h1
        exact (List.getElem?_eq_none (by simpa using h1)).symm
    · rfl
  have pw := List.pairwise_iff_getElem.1 h.apart
  have ne : ∀ (j : Nat) (x : SRow), j ≠ i → rs[j]? = some x → (vRow x).ownBlock ≠ some g := by
    intro j x hj hx hb
    obtain ⟨hjl, rfl⟩ := List.getElem?_eq_some_iff.1 hx
    have hri : rs[i] = ⟨some ⟨g, 0, none⟩, rl, rc⟩ := (List.getElem?_eq_some_iff.1 hi).2
    rcases Nat.lt_or_ge j i with hlt | hge
    · exact pw j i hjl hil hlt g hb (by rw [hri]; exact hob)
    · exact pw i j hil hjl (by omega) g (by rw [hri]; exact hob) hb
  refine ⟨by rw [List.length_set, hmap]; exact ownsRow_setCell_other h.top (own_ne_kind h.top hcur (by decide)) _, fun x hx => ?_, ?_⟩
  · obtain ⟨j, hj⟩ := List.getElem?_of_mem hx
    rw [List.getElem?_set] at hj
    split at hj
    · rename_i e
      first | rw [if_pos hil] at hj | skip
      injection hj with hj
      subst hj
      have := own_set (i := c) hrow (.string s)
      show World.ownsRow _ base 9 1 (vRow ⟨some ⟨g, 0, none⟩, rl.set c s, rc⟩) (rl.set c s).length ((rl.set c s).map vStr)
      rw [hv, List.length_set, List.map_set]
      exact this
    · rename_i e
      exact ownsRow_setCell_other (h.row x (List.mem_of_getElem? hj)) (ne j x (fun h => e h.symm) hj) _
  · have h2 : (rs.map vRow).Pairwise Apart := List.pairwise_map.2 h.apart
    rw [← hmap] at h2
    exact List.pairwise_map.1 h2
end
theorem own_lit {w : World} {base : Nat} {cs : Array Value} {e : TypeId} {n : Nat} (hb : base ≤ w.heap.size) (hn : cs.size = n) (hm : n ≤ maxLen) : (w.alloc (.cells cs e)).ownsRow base e 1 (.slice (some ⟨w.heap.size, 0, none⟩) n n) n cs.toList := by
  subst hn
  exact ⟨by simp, .inr ⟨w.heap.size, cs.size, cs, rfl, hb, heap_alloc_new w _, Nat.le_refl _, hm, by simp, by simp only [Nat.mul_one]; exact List.take_of_length_le (by simp)⟩⟩
theorem alignSheets_rd (w : World) (A B : Option Addr) (rs ts : List SRow) (n m c d : Nat) (name name2 : ByteArray) (z1 z2 : Int) (ca cb : Nat) (hn : rs.length = n) (hm : ts.length = m) (h1 : z1 = (ca : Int)) (h2 : z2 = (cb : Int))
    (hA : Grid w A rs) (hB : Grid w B ts) (hma : Mild rs) (hmb : Mild ts) (hwa : Wide rs ca) (hwb : Wide ts cb) (hca : ca ≤ 200) (hcb : cb ≤ 200) :
    Calls Try.prog 17 #[.agg #[.string name, .int .i64 z1, .slice A n c], .agg #[.string name2, .int .i64 z2, .slice B m d]] w fun e w' =>
      ∃ Z1 c1 Z2 c2, e = .returned (.agg #[.string name, .slice Z1 n c1, .int .i64 m, .slice Z2 ca c2, .int .i64 z2, .bool false]) ∧
        At1 vInt w' Z1 (rowsOf (rowKeys rs) (rowKeys ts)) ∧ At1 vInt w' Z2 (colsOf rs ts (rowsOf (rowKeys rs) (rowKeys ts)) ca cb) ∧ Below w.heap.size w w' := by
  subst hn hm h1 h2
  exact alignSheets_any w A B rs ts c d name name2 ca cb hA hB hma hmb hwa hwb hca hcb
theorem same_rd (w : World) (n : Nat) (z : Int) (hz : z = (n : Int)) (hn : n ≤ 1000) : Calls Try.prog 23 #[.int .i64 z] w fun e w' => ∃ A c, e = .returned (.agg #[.slice A n c, .int .i64 z]) ∧ At1 vInt w' A (upto n) ∧ Below w.heap.size w w' := by
  subst hz
  refine (same_any w n hn).mono ?_
  rintro e w' ⟨A, c, rfl, h, hb⟩
  exact ⟨A, c, rfl, At1.of_own (l := upto n) h (by rw [upto_len]; omega), hb⟩
/-- a load from the middle of a block -/
theorem pt_loadC {P : Program} {ops : Array Oper} {Q : Exit → Act → World → Prop} {a : Act} {w : World} {o : Oper} {t : PTo} {T : TypeId} {x : Operand} {p : Addr} {v : Value} (hrun : ∀ W, W.heap[p.block]? = w.heap[p.block]? → (Instr.loadAt T (.pointer (some p))).run P W = .ok v W) (hlt : p.block < w.heap.size)
    (hw : Region.wanted o (yielded ops a.tmps) = true) (ho : o.op = .load T x) (hx : a.eval x = .pointer (some p)) (h2 : PlannedT P ops Q t (a.put o.dst v) w) : PlannedT P ops Q (.free o t) a w := by
  refine pt_at hw (fun W hW => ?_) h2
  unfold execOp
  rw [ho]
  simp only [hx, Sem.run_bind, hrun W (hW.block p.block hlt), Result.andThen_ok]
  rfl
theorem load_shift1 (k : Nat) (W : World) (a v N c d e : Value) (h : W.heap[k]? = some (.cells #[a, v, N, c, d, e] 42 (0, 0))) :
    (Instr.loadAt 30 (.pointer (some ⟨k, 1, none⟩))).run Try.prog W = .ok (.agg #[v, N]) W := by
  obtain ⟨_, h1, h2, _⟩ := shift6 h
  simp [go_sem, h1, h2]
theorem load_shift2 (k : Nat) (W : World) (a b c v N e : Value) (h : W.heap[k]? = some (.cells #[a, b, c, v, N, e] 42 (0, 0))) :
    (Instr.loadAt 30 (.pointer (some ⟨k, 3, none⟩))).run Try.prog W = .ok (.agg #[v, N]) W := by
  obtain ⟨_, _, _, h1, h2, _⟩ := shift6 h
  simp [go_sem, h1, h2]

/-- the first sheet's rows, the second one's -/
def tri (i : Nat) : List ByteArray := [digits (100 + i), digits (200 + i), digits (300 + i)]
def Okay (s : ByteArray) : Prop := s ≠ ByteArray.empty ∧ s.size ≤ 30
def CellRow (i : Nat) (l : List ByteArray) : Prop := ∃ y z, l = [digits (100 + i), y, z] ∧ Okay y ∧ Okay z
def CellRows (k : Nat) (ts : List SRow) : Prop := ts.length = k ∧ ∀ (i : Nat) (r : SRow), ts[i]? = some r → CellRow i r.l
theorem okay_digits {n : Nat} (h : n < 1000) : Okay (digits n) := ⟨digits_pos n, by have := digits_size h; omega⟩
theorem CellRow.all {i : Nat} {l : List ByteArray} (hi : i < 100) (h : CellRow i l) : l.length = 3 ∧ ∀ s ∈ l, Okay s := by
  obtain ⟨y, z, rfl, hy, hz⟩ := h
  refine ⟨rfl, fun s hs => ?_⟩
  simp only [List.mem_cons, List.not_mem_nil, or_false] at hs
  rcases hs with rfl | rfl | rfl
  · exact okay_digits (by omega)
  · exact hy
  · exact hz
theorem CellRows.mild {k : Nat} {ts : List SRow} (h : CellRows k ts) (hk : k ≤ 100) : Mild ts ∧ Wide ts 3 := by
  have each : ∀ r ∈ ts, r.l.length = 3 ∧ ∀ s ∈ r.l, Okay s := fun r hr => by
    obtain ⟨i, hi⟩ := List.getElem?_of_mem hr
    have := (List.getElem?_eq_some_iff.1 hi).1
    have := h.1
    exact (h.2 i r hi).all (by omega)
  exact ⟨⟨by have := h.1; omega, fun r hr => ⟨by have := (each r hr).1; omega, fun s hs => by have := ((each r hr).2 s hs).2; omega⟩⟩, fun r hr => (each r hr).1⟩
theorem tri_cells {k : Nat} {ra : List SRow} (hk : k ≤ 100) (h : ra.map SRow.l = (List.range k).map tri) : CellRows k ra := by
  have hl : ra.length = k := by have := congrArg List.length h; simpa using this
  refine ⟨hl, fun i r hr => ?_⟩
  have hi := (List.getElem?_eq_some_iff.1 hr).1
  have : (ra.map SRow.l)[i]? = some r.l := by rw [List.getElem?_map, hr]; rfl
  rw [h, List.getElem?_map, List.getElem?_range (by omega)] at this
  have e : tri i = r.l := Option.some.inj this
  exact ⟨_, _, e.symm, okay_digits (by omega), okay_digits (by omega)⟩
theorem CellRows.same {k : Nat} {ra ts : List SRow} (h : CellRows k ra) (hs : Same ts ra) : CellRows k ts := by
  refine ⟨by rw [hs.len]; exact h.1, fun i r hr => ?_⟩
  have : (ts.map SRow.l)[i]? = some r.l := by rw [List.getElem?_map, hr]; rfl
  rw [show ts.map SRow.l = ra.map SRow.l from hs, List.getElem?_map] at this
  cases ha : ra[i]? with
  | none => rw [ha] at this; cases this
  | some x => rw [ha] at this; rw [← Option.some.inj this]; exact h.2 i x ha
theorem CellRows.set_ {k i c : Nat} {ts : List SRow} {r : SRow} {s : ByteArray} (h : CellRows k ts) (hi : ts[i]? = some r) (hc : c = 1 ∨ c = 2) (hs : Okay s) : CellRows k (ts.set i ⟨r.A, r.l.set c s, r.c⟩) := by
  refine ⟨by rw [List.length_set]; exact h.1, fun j x hx => ?_⟩
  rw [List.getElem?_set] at hx
  split at hx
  · rename_i e
    subst e
    split at hx
    · injection hx with hx
      subst hx
      obtain ⟨y, z, e, hy, hz⟩ := h.2 i r hi
      rcases hc with rfl | rfl
      · exact ⟨s, z, by rw [e]; rfl, hs, hz⟩
      · exact ⟨y, s, by rw [e]; rfl, hy, hs⟩
    · cases hx
  · exact h.2 j x hx
theorem okay_new {j : Nat} (h : j < 1000) : Okay (⟨#[39, 110, 101, 119]⟩ ++ digits j) := by
  have hs : (⟨#[39, 110, 101, 119]⟩ ++ digits j : ByteArray).size = 4 + (digits j).size := by rw [ByteArray.size_append]; rfl
  refine ⟨fun e => ?_, by have := digits_size h; omega⟩
  rw [e] at hs
  simp at hs
  omega
theorem load_byte (p : Addr) (v : Value) (W : World) (h : W.cell? p = some v) : (Instr.loadAt 5 (.pointer (some p))).run Try.prog W = .ok v W := by simp [go_sem, h]
/-- the law -/
theorem cells_law {k : Nat} {ra ts : List SRow} (hk : k ≤ 100) (ha : CellRows k ra) (hb : CellRows k ts) : rowsOf (rowKeys ra) (rowKeys ts) = upto k ∧ colsOf ra ts (upto k) 3 3 = upto 3 := by
  have inj : ∀ (i j : Nat) (r t : SRow), ra[i]? = some r → ts[j]? = some t → keyOf r.l = keyOf t.l → r.l = t.l := by
    intro i j r t hr ht hkk
    have h1 := (List.getElem?_eq_some_iff.1 hr).1
    have h2 := (List.getElem?_eq_some_iff.1 ht).1
    have l1 := ha.1
    have l2 := hb.1
    obtain ⟨n1, o1⟩ := (ha.2 i r hr).all (by omega)
    obtain ⟨n2, o2⟩ := (hb.2 j t ht).all (by omega)
    have := keyOf_texts (by omega) (by omega) (fun s hs => by have := (o1 s hs).2; omega) (fun s hs => by have := (o2 s hs).2; omega) hkk
    rwa [texts_all fun s hs => (o1 s hs).1, texts_all fun s hs => (o2 s hs).1] at this
  refine ⟨?_, ?_⟩
  · have := rows_own (a := rowKeys ra) (b := rowKeys ts) (by rw [rowKeys_len, rowKeys_len, ha.1, hb.1]) (fun i j x hi hj => by
      simp only [rowKeys, List.getElem?_map] at hi hj
      cases hr : ra[i]? with
      | none => rw [hr] at hi; cases hi
      | some r =>
        cases ht : ts[j]? with
        | none => rw [ht] at hj; cases hj
        | some t =>
          rw [hr] at hi
          rw [ht] at hj
          have e := inj i j r t hr ht ((Option.some.inj hi).trans (Option.some.inj hj).symm)
          obtain ⟨y, z, e1, _⟩ := ha.2 i r hr
          obtain ⟨y', z', e2, _⟩ := hb.2 j t ht
          rw [e1, e2] at e
          have := digits_inj (List.cons.inj e).1
          omega)
    rw [rowKeys_len, ha.1] at this
    exact this
  · have := cols_own (rs := ra) (ts := ts) (ca := 3) (by rw [ha.1, hb.1]) (by omega) (fun i r t hr ht => inj i i r t hr ht)
    rwa [ha.1] at this

set_option maxRecDepth 100000 in
set_option maxHeartbeats 8000000 in
theorem alignCells_walk (w : World) (X : Option Addr) (bs : List UInt8) (cx : Nat) (n0 : Int) (hX : At1 vByte w X bs) (h1 : (Lit.int .u8 n0).wf = true) :
    Calls Try.prog 6 #[.slice X bs.length cx, .int .u8 n0] w fun e w' => e = .returned (.bool true) ∧ Below w.heap.size w w' := by
  have nat8 : ∀ z : Int, (Lit.int .u8 z).wf = true → ∃ q : Nat, z = (q : Int) ∧ q < 256 := fun z h => by
    simp [Lit.wf, IntKind.min, IntKind.max, IntKind.signed, IntKind.bits] at h; exact ⟨z.toNat, by omega, by omega⟩
  obtain ⟨n, rfl, hn⟩ := nat8 n0 h1
  have HX := Lib.hid hX
  clear h1 nat8 hX
  by_cases h20 : 20 < bs.length
  · have h20z : (20 : Int) < (bs.length : Int) := by omega
    go_enter Try.func6, Try.ntmps6
    go_wp2_with fail
    refine (awake_any w).mono ?_
    rintro e w1 ⟨rfl, hb1⟩
    go_wp2
    go_ret
    exact ⟨rfl, hb1⟩
  have e1 : IntKind.i64.wrap (n : Int) = n := by simp [IntKind.wrap, IntKind.signed, IntKind.bits]; omega
  obtain ⟨k, hk⟩ : ∃ k : Nat, k = 2 + n % 5 := ⟨_, rfl⟩
  have hk2 : 2 ≤ k ∧ k ≤ 6 := by omega
  have q1 : 2 + (n : Int) % 5 = (k : Int) := by omega
  clear hk
  have h20z : ¬ (20 : Int) < (bs.length : Int) := by omega
  go_enter Try.func6, Try.ntmps6
  go_wp2
  obtain ⟨W, hW⟩ : ∃ W, W = w.alloc (.cells #[.string ⟨#[65]⟩, .int .i64 3, .slice none 0 0] 24) := ⟨_, rfl⟩
  have hS : W.heap[w.heap.size]? = some (.cells #[.string ⟨#[65]⟩, .int .i64 3, .slice none 0 0] 24 (0, 0)) := by rw [hW]; exact heap_alloc_new w _
  have hsW : W.heap.size = w.heap.size + 1 := by rw [hW]; simp
  have hbW : Below w.heap.size w W := by rw [hW]; exact (Below.refl _ _).alloc (Nat.le_refl _) _
  rw [← hW]
  clear hW q1 e1 h20z
  go_loopw [7] (fun i wr => ∃ (r : Nat) (v : Value) (ra : List SRow), r ≤ k ∧ i = .int .i64 r ∧ wr.heap[w.heap.size]? = some (.cells #[.string ⟨#[65]⟩, .int .i64 3, v] 24 (0, 0)) ∧ OwnRows wr (w.heap.size + 1) v ra ∧ Hid (ra.map SRow.l = (List.range r).map tri) ∧ w.heap.size + 1 ≤ wr.heap.size ∧ Below w.heap.size w wr) (fun i _ => k - (intOf i).toNat)
  case atStart => exact ⟨0, _, [], Nat.zero_le _, rfl, hS, OwnRows.nil, rfl, by omega, hbW⟩
  case round =>
    clear hS hsW hbW
    obtain ⟨r, v, ra, hr, rfl, hT, HOW, HRA, hsz, hb⟩ := hrel
    obtain ⟨_, _, t2⟩ := sheet3 hT
    obtain ⟨A1, c1, hv⟩ := HOW.form
    have hlen : ra.length = r := by have := congrArg List.length HRA.out; simpa using this
    rw [hlen] at hv
    subst hv
    have HLEN := Lib.hid hlen
    clear hlen
    by_cases hlt : r < k
    · have l0 : w.heap.size < wr.drew.heap.size := by show _ < wr.heap.size; omega
      go_wp2
      refine wp_region_tree [13, 14, 15] (.free 0 (.free 1 (.free 2 (.free 3 (.free 5 (.free 6 (.free 8 (.free 9 (.eff 4 (.eff 7 (.eff 10 (.eff 11 (.eff 12 (.last 13 (.last 14 (.last 15 (.nil))))))))))))))))) (by kernel_rfl) (by kernel_rfl) (fun _ _ d _ _ h => by cases d <;> exact h) ?_
      conv => arg 4; whnf
      conv => arg 4; arg 1; whnf
      refine pt_free (by rfl) (fun K hK => ?_)
      go_big_quiet_op
      first | (refine hK _ ?_; clear hK K) | (refine ⟨_, fun _ _ => rfl, hK _ ?_⟩; clear hK K)
      conv => arg 4; whnf
      conv => arg 4; arg 1; whnf
      refine pt_load (fun W h => load_rows _ _ W h) (p := ⟨w.heap.size, 2, none⟩) t2 l0 (by rfl) rfl rfl ?_
      simp only [Act.put, List.setIfInBounds_toArray, List.set_cons_zero, List.set_cons_succ]
      conv => arg 4; whnf
      conv => arg 4; arg 1; whnf
      refine pt_free (by rfl) (fun K hK => ?_)
      go_big_quiet_op
      first | (refine hK _ ?_; clear hK K) | (refine ⟨_, fun _ _ => rfl, hK _ ?_⟩; clear hK K)
      conv => arg 4; whnf
      conv => arg 4; arg 1; whnf
      refine pt_free (by rfl) (fun K hK => ?_)
      go_big_quiet_op
      first | (refine hK _ ?_; clear hK K) | (refine ⟨_, fun _ _ => rfl, hK _ ?_⟩; clear hK K)
      conv => arg 4; whnf
      conv => arg 4; arg 1; whnf
      refine pt_free (by rfl) (fun K hK => ?_)
      go_big_quiet_op
      first | (refine hK _ ?_; clear hK K) | (refine ⟨_, fun _ _ => rfl, hK _ ?_⟩; clear hK K)
      conv => arg 4; whnf
      conv => arg 4; arg 1; whnf
      refine pt_free (by rfl) (fun K hK => ?_)
      go_big_quiet_op
      first | (refine hK _ ?_; clear hK K) | (refine ⟨_, fun _ _ => rfl, hK _ ?_⟩; clear hK K)
      conv => arg 4; whnf
      conv => arg 4; arg 1; whnf
      refine pt_free (by rfl) (fun K hK => ?_)
      go_big_quiet_op
      first | (refine hK _ ?_; clear hK K) | (refine ⟨_, fun _ _ => rfl, hK _ ?_⟩; clear hK K)
      conv => arg 4; whnf
      conv => arg 4; arg 1; whnf
      refine pt_free (by rfl) (fun K hK => ?_)
      go_big_quiet_op
      first | (refine hK _ ?_; clear hK K) | (refine ⟨_, fun _ _ => rfl, hK _ ?_⟩; clear hK K)
      have O1 := HOW.keep (W' := wr.drew) (Below.refl _ _).drew
      have T1 : wr.drew.heap[w.heap.size]? = _ := hT
      have hbd : Below w.heap.size w wr.drew := hb.drew
      have hsd : w.heap.size + 1 ≤ wr.drew.heap.size := hsz
      generalize wr.drew = wd at *
      clear hT HOW hb hsz l0 t2
      conv => arg 4; whnf
      conv => arg 4; arg 1; whnf
      refine pt_eff (by rfl) (fun K hK => ?_)
      go_wp2_with fail
      refine (digits_rd _ (100 + r) _ (by omega) (by omega)).mono ?_
      rintro e w1 ⟨rfl, hw1⟩
      refine hK _ _ hw1 ?_
      clear hK K
      conv => arg 4; whnf
      conv => arg 4; arg 1; whnf
      refine pt_eff (by rfl) (fun K hK => ?_)
      go_wp2_with fail
      refine (digits_rd _ (200 + r) _ (by omega) (by omega)).mono ?_
      rintro e w2 ⟨rfl, hw2⟩
      refine hK _ _ hw2 ?_
      clear hK K
      conv => arg 4; whnf
      conv => arg 4; arg 1; whnf
      refine pt_eff (by rfl) (fun K hK => ?_)
      go_wp2_with fail
      refine (digits_rd _ (300 + r) _ (by omega) (by omega)).mono ?_
      rintro e w3 ⟨rfl, hw3⟩
      refine hK _ _ hw3 ?_
      clear hK K
      have hall : Below wd.heap.size wd w3 := hw1.trans ((hw2.mono hw1.size).trans (hw3.mono (Nat.le_trans hw1.size hw2.size)))
      have hs3 := hall.size
      have O2 := O1.keep hall
      have T2 := (hall.block w.heap.size (by omega)).trans T1
      have hbb := hbd.trans (hall.mono hbd.size)
      clear hw1 hw2 hw3 hall O1 T1 hbd
      conv => arg 4; whnf
      conv => arg 4; arg 1; whnf
      refine pt_eff (by rfl) (fun K hK => ?_)
      go_wp2
      refine hK _ _ ((Below.refl _ _).alloc (Nat.le_refl _) _) ?_
      clear hK K
      obtain ⟨G, hGe⟩ : ∃ G, w3.heap.size = G := ⟨_, rfl⟩
      obtain ⟨Wa, hWa⟩ : ∃ Wa, Wa = w3.alloc (.cells #[.string (digits (100 + r)), .string (digits (200 + r)), .string (digits (300 + r))] 9) := ⟨_, rfl⟩
      have ea : Below w3.heap.size w3 Wa := by rw [hWa]; exact (Below.refl _ _).alloc (Nat.le_refl _) _
      have hlit : Wa.ownsRow (w.heap.size + 1) 9 1 (vRow ⟨some ⟨G, 0, none⟩, tri r, 3⟩) (tri r).length ((tri r).map vStr) := by
        rw [hWa, ← hGe]
        exact own_lit (cs := #[.string (digits (100 + r)), .string (digits (200 + r)), .string (digits (300 + r))]) (n := 3) (by omega) rfl (by simp [maxLen])
      have hap := apart_new (W := w3) (x := vRow ⟨some ⟨G, 0, none⟩, tri r, 3⟩) (G := G) O2 (by omega) (fun k hk => by simp [vRow, Value.ownBlock] at hk; omega)
      have O3 := O2.keep ea
      have T3 := (ea.block w.heap.size (by omega)).trans T2
      have hbe := hbb.trans (ea.mono hbb.size)
      have hse := hbe.size
      have hsa : w.heap.size + 1 ≤ Wa.heap.size := by have := ea.size; omega
      rw [← hWa, hGe]
      clear hWa ea O2 T2 hbb hGe
      conv => arg 4; whnf
      conv => arg 4; arg 1; whnf
      refine pt_eff (by rfl) (fun K hK => ?_)
      go_wp2
      refine hK _ _ ((Below.refl _ _).alloc (Nat.le_refl _) _) ?_
      clear hK K
      have hrl : ra.length ≤ 6 := by have := HLEN.out; omega
      have htop : Wa.ownsRow (w.heap.size + 1) 26 1 (.slice A1 r c1) ra.length (ra.map vRow) := O3.top
      conv => arg 4; whnf
      conv => arg 4; arg 1; whnf
      refine pt_last (by rfl) (fun K hK => ?_)
      refine wp_app1 eRow (by rfl) htop (by rfl) (by rfl) (by first | rfl | (rw [World.size_alloc])) rfl (by omega) (by omega) (fun v2 W3 hown3 hg3 hk3 => ?_)
      obtain ⟨A3, c3, rfl, _⟩ := own_form hown3
      refine hK _ _ ?_
      clear hK K
      simp only [Act.put, List.setIfInBounds_toArray, List.set_cons_zero, List.set_cons_succ]
      have O4 := O3.append (r := ⟨some ⟨G, 0, none⟩, tri r, 3⟩) hlit hap hown3 hg3
      have T4 := grown_block O3.top T3 (by decide) hg3
      have hb3 := below_grown hbe O3.top hg3 (by omega) (by omega)
      have hs4 : w.heap.size + 1 ≤ W3.heap.size := by have := hg3.size; omega
      obtain ⟨y0, y1, y2⟩ := sheet3 T4
      obtain ⟨z0, z1, z2⟩ := sheet3f T4
      conv => arg 4; whnf
      conv => arg 4; arg 1; whnf
      refine pt_last (by rfl) (fun K hK => ?_)
      go_wp2
      conv => arg 4; whnf
      conv => arg 4; arg 1; whnf
      refine pt_last (by rfl) (fun K hK => ?_)
      go_wp2
      refine pt_nil ?_
      go_wp2
      go_roundw
      case rel =>
        refine ⟨r + 1, _, ra ++ [⟨some ⟨G, 0, none⟩, tri r, 3⟩], by omega, by go_num, sheet_store2 T4, O4.setCell T4 (by decide) (by decide) _, ?_, by simpa using hs4, hb3.setCell (p := ⟨w.heap.size, 2, none⟩) (Nat.le_refl _) _⟩
        show (ra ++ [(⟨some ⟨G, 0, none⟩, tri r, 3⟩ : SRow)]).map SRow.l = (List.range (r + 1)).map tri
        rw [List.map_append, HRA.out, List.range_succ, List.map_append]
        rfl
      case measure => first | (simp [intOf]; done) | (simp [intOf]; omega)
    · obtain rfl : k = r := by omega
      have hca := tri_cells (by omega) HRA.out
      have HCA := Lib.hid hca
      obtain ⟨hmild, hwide⟩ := hca.mild (by omega)
      have HMI := Lib.hid hmild
      have HWI := Lib.hid hwide
      have HGA := Lib.hid (HOW.grid' HLEN.out hmild)
      obtain ⟨t0, t1, _⟩ := sheet3 hT
      clear hca hmild hwide HOW HRA hlt
      go_wp2_with fail
      refine (copySheet_any wr A1 ra k c1 ⟨#[65]⟩ 3 HLEN.out HGA.out HMI.out).mono ?_
      rintro e w5 ⟨A2, c2, ts, he, HTS, hst, hb5⟩
      have hcb := HCA.out.same hst
      rw [hcb.1] at he HTS
      subst he
      have HCB := Lib.hid hcb
      have HTS := Lib.hid HTS
      clear hst hcb t0 t1 t2
      have hs5 := hb5.size
      go_wp2
      obtain ⟨W6, hW6⟩ : ∃ W6, W6 = w5.alloc (.cells #[.string ⟨#[65]⟩, .int .i64 3, .slice A2 k c2] 24) := ⟨_, rfl⟩
      obtain ⟨SB, hSB⟩ : ∃ SB, w5.heap.size = SB := ⟨_, rfl⟩
      have e6 : Below w5.heap.size w5 W6 := by rw [hW6]; exact (Below.refl _ _).alloc (Nat.le_refl _) _
      have hB6 : W6.heap[SB]? = some (.cells #[.string ⟨#[65]⟩, .int .i64 3, .slice A2 k c2] 24 (0, 0)) := by rw [hW6, ← hSB]; exact heap_alloc_new _ _
      have HT6 := Lib.hid (HTS.out.keep e6)
      have hb6 : Below wr.heap.size wr W6 := hb5.trans (e6.mono hs5)
      have hs6 : SB < W6.heap.size ∧ wr.heap.size ≤ SB := ⟨(Array.getElem?_eq_some_iff.1 hB6).1, by omega⟩
      rw [← hW6, hSB]
      clear hW6 hSB e6 HTS hb5 hs5
      generalize hwb : wr = wb at *
      clear hwb
      go_loopw [9] (fun i wr => ∃ (j : Nat) (ts : List SRow), j ≤ bs.length ∧ i = .int .i64 j ∧ wr.heap[SB]? = some (.cells #[.string ⟨#[65]⟩, .int .i64 3, .slice A2 k c2] 24 (0, 0)) ∧ Hid (OwnRows wr wb.heap.size (.slice A2 k c2) ts) ∧ Hid (CellRows k ts) ∧ wb.heap.size ≤ wr.heap.size ∧ Below wb.heap.size wb wr) (fun i _ => bs.length - (intOf i).toNat)
      case atStart => exact ⟨0, ts, Nat.zero_le _, rfl, hB6, HT6.out, HCB.out, hb6.size, hb6⟩
      case round =>
        clear HCB HT6 hB6 hb6 hs6
        obtain ⟨j, ts, hj, rfl, hB, HO, HC, hsz2, hb2⟩ := hrel
        have hbw := hb.trans (hb2.mono (by omega))
        obtain ⟨s0, s1, s2⟩ := sheet3 hB
        have hSl : SB < wr.heap.size := (Array.getElem?_eq_some_iff.1 hB).1
        by_cases hlt : j < bs.length
        · obtain ⟨adx, hxe, hcx⟩ := (HX.out.below hbw).at_ hlt
          subst hxe
          have hjz : (j : Int) < (bs.length : Int) := by omega
          generalize bs[j] = u at hcx
          obtain ⟨q, hq⟩ : ∃ q : Nat, u.toNat = q := ⟨_, rfl⟩
          have hq256 : q < 256 := by rw [← hq]; exact u.toNat_lt
          have hcx2 : wr.cell? (adx.add j) = some (.int .u8 (q : Int)) := by rw [← hq]; exact hcx
          clear hcx
          have e1 : IntKind.i64.wrap (q : Int) = q := by simp [IntKind.wrap, IntKind.signed, IntKind.bits]; omega
          obtain ⟨i, hi⟩ : ∃ i : Nat, i = q % k := ⟨_, rfl⟩
          have hik : i < k := by rw [hi]; exact Nat.mod_lt _ (by omega)
          obtain ⟨cc, hcc⟩ : ∃ cc : Nat, cc = 1 + q / 8 % 2 := ⟨_, rfl⟩
          have hcc2 : cc = 1 ∨ cc = 2 := by omega
          have q2 : (q : Int) % (k : Int) = (i : Int) := by rw [hi]; simp
          have q3 : 1 + (q : Int) / 8 % 2 = (cc : Int) := by omega
          have k0 : ¬ ((k : Int) = 0) := by omega
          clear hi hcc hq
          have htl : i < ts.length := by rw [HC.out.1]; exact hik
          have hti : ts[i]? = some ts[i] := List.getElem?_eq_getElem htl
          obtain ⟨cl3, cok⟩ := (HC.out.2 i _ hti).all (by omega)
          have hrow := HO.out.row ts[i] (List.getElem_mem _)
          obtain ⟨adt, hte, hct⟩ := (HO.out.grid' HC.out.1 (HC.out.mild (by omega)).1).top.at_ htl
          have HTI := Lib.hid hti
          obtain ⟨rr, hrr⟩ : ∃ rr, rr = ts[i] := ⟨_, rfl⟩
          rw [← hrr] at hct hrow cl3 HTI
          clear hti hrr cok
          obtain ⟨rA, rl, rc⟩ := rr
          dsimp only at cl3
          obtain ⟨g, hg⟩ : ∃ g, rA = some ⟨g, 0, none⟩ := by
            rcases hrow.2 with ⟨_, h0⟩ | ⟨g, cap, cur, hv, _⟩
            · simp [cl3] at h0
            · unfold vRow at hv; injection hv with hv; exact ⟨g, hv⟩
          subst hg
          have hrow3 : wr.ownsRow wb.heap.size 9 1 (.slice (some ⟨g, 0, none⟩) 3 rc) 3 (rl.map vStr) := by have := hrow; unfold vRow at this; simp only [cl3] at this; exact this
          have hct3 : wr.cell? (adt.add i) = some (.slice (some ⟨g, 0, none⟩) 3 rc) := by rw [hct]; unfold vRow; simp only [cl3]
          obtain ⟨d1, d3, _⟩ := own_cell hrow3 (i := cc) (x := vStr (rl[cc]'(by omega))) (by rw [List.getElem?_map, List.getElem?_eq_getElem (by omega)]; rfl)
          have hccz : (cc : Int) < 3 := by omega
          have hikz : (i : Int) < (k : Int) := by omega
          have lB : SB < wr.drew.heap.size := hSl
          have lx : (adx.add j).block < wr.drew.heap.size := World.block_lt_of_cell? wr _ hcx2
          have lt_ : (adt.add i).block < wr.drew.heap.size := World.block_lt_of_cell? wr _ hct3
          have hgl : g < wr.heap.size := (hrow3.lt g rfl).2
          have hgb : wb.heap.size ≤ g := (hrow3.lt g rfl).1
          have hds := digits_size (n := j) (by omega)
          have hcat : ¬ (9223372036854775807 < 4 + (digits j).size) := by omega
          clear hrow hct hrow3
          subst hte
          go_wp2
          refine wp_region_tree [23] (.free 0 (.free 1 (.free 2 (.free 3 (.free 4 (.free 5 (.free 6 (.free 7 (.free 8 (.free 9 (.free 10 (.free 11 (.free 12 (.free 13 (.free 14 (.free 15 (.free 16 (.free 17 (.free 18 (.free 19 (.eff 20 (.free 21 (.free 22 (.last 23 (.nil))))))))))))))))))))))))) (by kernel_rfl) (by kernel_rfl) (fun _ _ d _ _ h => by cases d <;> exact h) ?_
          conv => arg 4; whnf
          conv => arg 4; arg 1; whnf
          refine pt_free (by rfl) (fun K hK => ?_)
          go_big_quiet_op
          first | (refine hK _ ?_; clear hK K) | (refine ⟨_, fun _ _ => rfl, hK _ ?_⟩; clear hK K)
          conv => arg 4; whnf
          conv => arg 4; arg 1; whnf
          refine pt_load (fun W h => load_rows _ _ W h) (p := ⟨SB, 2, none⟩) s2 lB (by rfl) rfl rfl ?_
          simp only [Act.put, List.setIfInBounds_toArray, List.set_cons_zero, List.set_cons_succ]
          conv => arg 4; whnf
          conv => arg 4; arg 1; whnf
          refine pt_free (by rfl) (fun K hK => ?_)
          go_big_quiet_op
          first | (refine hK _ ?_; clear hK K) | (refine ⟨_, fun _ _ => rfl, hK _ ?_⟩; clear hK K)
          conv => arg 4; whnf
          conv => arg 4; arg 1; whnf
          refine pt_free (by rfl) (fun K hK => ?_)
          go_big_quiet_op
          first | (refine hK _ ?_; clear hK K) | (refine ⟨_, fun _ _ => rfl, hK _ ?_⟩; clear hK K)
          conv => arg 4; whnf
          conv => arg 4; arg 1; whnf
          refine pt_free (by rfl) (fun K hK => ?_)
          go_big_quiet_op
          first | (refine hK _ ?_; clear hK K) | (refine ⟨_, fun _ _ => rfl, hK _ ?_⟩; clear hK K)
          conv => arg 4; whnf
          conv => arg 4; arg 1; whnf
          refine pt_load (fun W h => load_byte _ _ W h) (p := adx.add j) hcx2 lx (by rfl) rfl rfl ?_
          simp only [Act.put, List.setIfInBounds_toArray, List.set_cons_zero, List.set_cons_succ]
          conv => arg 4; whnf
          conv => arg 4; arg 1; whnf
          refine pt_free (by rfl) (fun K hK => ?_)
          go_big_quiet_op
          first | (refine hK _ ?_; clear hK K) | (refine ⟨_, fun _ _ => rfl, hK _ ?_⟩; clear hK K)
          conv => arg 4; whnf
          conv => arg 4; arg 1; whnf
          refine pt_free (by rfl) (fun K hK => ?_)
          go_big_quiet_op
          first | (refine hK _ ?_; clear hK K) | (refine ⟨_, fun _ _ => rfl, hK _ ?_⟩; clear hK K)
          conv => arg 4; whnf
          conv => arg 4; arg 1; whnf
          refine pt_free (by rfl) (fun K hK => ?_)
          go_big_quiet_op
          first | (refine hK _ ?_; clear hK K) | (refine ⟨_, fun _ _ => rfl, hK _ ?_⟩; clear hK K)
          conv => arg 4; whnf
          conv => arg 4; arg 1; whnf
          refine pt_free (by rfl) (fun K hK => ?_)
          go_big_quiet_op
          first | (refine hK _ ?_; clear hK K) | (refine ⟨_, fun _ _ => rfl, hK _ ?_⟩; clear hK K)
          conv => arg 4; whnf
          conv => arg 4; arg 1; whnf
          refine pt_load (fun W h => load_strs _ _ W h) (p := adt.add i) hct3 lt_ (by rfl) rfl rfl ?_
          simp only [Act.put, List.setIfInBounds_toArray, List.set_cons_zero, List.set_cons_succ]
          conv => arg 4; whnf
          conv => arg 4; arg 1; whnf
          refine pt_free (by rfl) (fun K hK => ?_)
          go_big_quiet_op
          first | (refine hK _ ?_; clear hK K) | (refine ⟨_, fun _ _ => rfl, hK _ ?_⟩; clear hK K)
          conv => arg 4; whnf
          conv => arg 4; arg 1; whnf
          refine pt_free (by rfl) (fun K hK => ?_)
          go_big_quiet_op
          first | (refine hK _ ?_; clear hK K) | (refine ⟨_, fun _ _ => rfl, hK _ ?_⟩; clear hK K)
          conv => arg 4; whnf
          conv => arg 4; arg 1; whnf
          refine pt_free (by rfl) (fun K hK => ?_)
          go_big_quiet_op
          first | (refine hK _ ?_; clear hK K) | (refine ⟨_, fun _ _ => rfl, hK _ ?_⟩; clear hK K)
          conv => arg 4; whnf
          conv => arg 4; arg 1; whnf
          refine pt_load (fun W h => load_byte _ _ W h) (p := adx.add j) hcx2 lx (by rfl) rfl rfl ?_
          simp only [Act.put, List.setIfInBounds_toArray, List.set_cons_zero, List.set_cons_succ]
          conv => arg 4; whnf
          conv => arg 4; arg 1; whnf
          refine pt_free (by rfl) (fun K hK => ?_)
          go_big_quiet_op
          first | (refine hK _ ?_; clear hK K) | (refine ⟨_, fun _ _ => rfl, hK _ ?_⟩; clear hK K)
          conv => arg 4; whnf
          conv => arg 4; arg 1; whnf
          refine pt_free (by rfl) (fun K hK => ?_)
          go_big_quiet_op
          first | (refine hK _ ?_; clear hK K) | (refine ⟨_, fun _ _ => rfl, hK _ ?_⟩; clear hK K)
          conv => arg 4; whnf
          conv => arg 4; arg 1; whnf
          refine pt_free (by rfl) (fun K hK => ?_)
          go_big_quiet_op
          first | (refine hK _ ?_; clear hK K) | (refine ⟨_, fun _ _ => rfl, hK _ ?_⟩; clear hK K)
          conv => arg 4; whnf
          conv => arg 4; arg 1; whnf
          refine pt_free (by rfl) (fun K hK => ?_)
          go_big_quiet_op
          first | (refine hK _ ?_; clear hK K) | (refine ⟨_, fun _ _ => rfl, hK _ ?_⟩; clear hK K)
          conv => arg 4; whnf
          conv => arg 4; arg 1; whnf
          refine pt_free (by rfl) (fun K hK => ?_)
          go_big_quiet_op
          first | (refine hK _ ?_; clear hK K) | (refine ⟨_, fun _ _ => rfl, hK _ ?_⟩; clear hK K)
          conv => arg 4; whnf
          conv => arg 4; arg 1; whnf
          refine pt_eff (by rfl) (fun K hK => ?_)
          go_wp2_with fail
          refine (digits_rd _ j _ rfl (by omega)).mono ?_
          rintro e w7 ⟨rfl, hw7⟩
          refine hK _ _ hw7 ?_
          clear hK K
          conv => arg 4; whnf
          conv => arg 4; arg 1; whnf
          refine pt_free (by rfl) (fun K hK => ?_)
          go_big_quiet_op
          first | (refine hK _ ?_; clear hK K) | (refine ⟨_, fun _ _ => rfl, hK _ ?_⟩; clear hK K)
          conv => arg 4; whnf
          conv => arg 4; arg 1; whnf
          refine pt_free (by rfl) (fun K hK => ?_)
          go_big_quiet_op
          first | (refine hK _ ?_; clear hK K) | (refine ⟨_, fun _ _ => rfl, hK _ ?_⟩; clear hK K)
          have hall : Below wr.heap.size wr w7 := (Below.refl wr.heap.size wr).drew.trans hw7
          have d5 := (hall.cell (p := ⟨g, cc, none⟩) hgl).trans d1
          have d6 := (hall.frozen (p := ⟨g, cc, none⟩) hgl).trans d3
          have HO2 := HO.out.keep hall
          have hB2 := (hall.block SB hSl).trans hB
          have hb7 := hb2.trans (hall.mono hsz2)
          have hs7 := hall.size
          clear hall
          conv => arg 4; whnf
          conv => arg 4; arg 1; whnf
          refine pt_last (by rfl) (fun K hK => ?_)
          go_wp2
          refine pt_nil ?_
          go_wp2
          go_roundw
          case rel =>
            have hgn : SB ≠ g := fun e => by
              obtain ⟨cur, hcur⟩ := own_kind (HO2.row _ (List.mem_of_getElem? HTI.out)) (by unfold vRow; rfl)
              rw [← e, hB2] at hcur
              injection hcur with hcur
              injection hcur with _ hcur
              exact absurd hcur (by decide)
            exact ⟨j + 1, _, by omega, by go_num, (blkSet hgn).trans hB2, HO2.setText HTI.out rfl cc _, HC.out.set_ HTI.out hcc2 (okay_new (by omega)), by simp; omega, hb7.setCell (p := ⟨g, cc, none⟩) hgb _⟩
          case measure => first | (simp [intOf]; done) | (simp [intOf]; omega)
        · obtain rfl : j = bs.length := by omega
          obtain ⟨hm2, hw2⟩ := HC.out.mild (by omega)
          have HM2 := Lib.hid hm2
          have HW2 := Lib.hid hw2
          have HGB := Lib.hid (HO.out.grid' HC.out.1 hm2)
          have HGA2 := Lib.hid (HGA.out.below hb2)
          have hTA := (hb2.block w.heap.size (by omega)).trans hT
          obtain ⟨t0, t1, t2⟩ := sheet3 hTA
          have HLAW := Lib.hid (cells_law (by omega) HCA.out HC.out)
          have HL2 := Lib.hid HC.out.1
          clear hm2 hw2 HO HC HGA hT hlt
          go_wp2_with fail
          refine (alignSheets_rd wr A1 A2 ra ts k k c1 c2 ⟨#[65]⟩ ⟨#[65]⟩ 3 3 3 3 HLEN.out HL2.out rfl rfl HGA2.out HGB.out HMI.out HM2.out HWI.out HW2.out (by omega) (by omega)).mono ?_
          rintro e w8 ⟨Z1, f1, Z2, f2, rfl, hZ1, hZ2, hb8⟩
          rw [HLAW.out.1] at hZ1 hZ2
          rw [HLAW.out.2] at hZ2
          have hbw8 := hbw.trans (hb8.mono hbw.size)
          have HZ1 := Lib.hid hZ1
          have HZ2 := Lib.hid hZ2
          clear hZ1 hZ2 t0 t1 t2 s0 s1 s2
          go_wp2
          obtain ⟨W9, hW9⟩ : ∃ W9, W9 = w8.alloc (.cells #[.string ⟨#[65]⟩, .slice Z1 k f1, .int .i64 k, .slice Z2 3 f2, .int .i64 3, .bool false] 42) := ⟨_, rfl⟩
          obtain ⟨SC, hSC⟩ : ∃ SC, w8.heap.size = SC := ⟨_, rfl⟩
          have e9 : Below w8.heap.size w8 W9 := by rw [hW9]; exact (Below.refl _ _).alloc (Nat.le_refl _) _
          have hC9 : W9.heap[SC]? = some (.cells #[.string ⟨#[65]⟩, .slice Z1 k f1, .int .i64 k, .slice Z2 3 f2, .int .i64 3, .bool false] 42 (0, 0)) := by rw [hW9, ← hSC]; exact heap_alloc_new _ _
          have Y1 := Lib.hid ((HZ1.out.below e9).below (w' := W9.drew) (Below.refl _ _).drew)
          have Y2 := Lib.hid ((HZ2.out.below e9).below (w' := W9.drew) (Below.refl _ _).drew)
          have hbw9 := (hbw8.trans (e9.mono hbw8.size)).drew
          have hCd : W9.drew.heap[SC]? = some (.cells #[.string ⟨#[65]⟩, .slice Z1 k f1, .int .i64 k, .slice Z2 3 f2, .int .i64 3, .bool false] 42 (0, 0)) := hC9
          rw [← hW9, hSC]
          clear hW9 hSC e9 hC9 HZ1 HZ2 hbw8 hbw hb8 hb2 hb HGA2 HGB HM2 HW2
          refine wp_region_tree [] (.free 0 (.free 1 (.free 2 (.eff 3 (.eff 4 (.free 5 (.free 6 (.free 7 (.eff 8 (.eff 9 (.free 10 (.free 11 (.eff 12 (.free 13 (.free 14 (.nil)))))))))))))))) (by kernel_rfl) (by kernel_rfl) (fun _ _ d _ _ h => by cases d <;> exact h) ?_
          generalize W9.drew = wv at *
          have hCl : SC < wv.heap.size := (Array.getElem?_eq_some_iff.1 hCd).1
          conv => arg 4; whnf
          conv => arg 4; arg 1; whnf
          refine pt_free (by rfl) (fun K hK => ?_)
          go_big_quiet_op
          first | (refine hK _ ?_; clear hK K) | (refine ⟨_, fun _ _ => rfl, hK _ ?_⟩; clear hK K)
          conv => arg 4; whnf
          conv => arg 4; arg 1; whnf
          refine pt_loadC (p := ⟨SC, 1, none⟩) (fun W h => load_shift1 _ W _ _ _ _ _ _ (h.trans hCd)) hCl (by rfl) rfl rfl ?_
          simp only [Act.put, List.setIfInBounds_toArray, List.set_cons_zero, List.set_cons_succ]
          conv => arg 4; whnf
          conv => arg 4; arg 1; whnf
          refine pt_free (by rfl) (fun K hK => ?_)
          go_big_quiet_op
          first | (refine hK _ ?_; clear hK K) | (refine ⟨_, fun _ _ => rfl, hK _ ?_⟩; clear hK K)
          conv => arg 4; whnf
          conv => arg 4; arg 1; whnf
          refine pt_eff (by rfl) (fun K hK => ?_)
          go_wp2_with fail
          refine (same_rd _ k _ rfl (by omega)).mono ?_
          rintro e w10 ⟨S1, g1, rfl, hS1, hb10⟩
          refine hK _ _ hb10 ?_
          clear hK K
          conv => arg 4; whnf
          conv => arg 4; arg 1; whnf
          refine pt_eff (by rfl) (fun K hK => ?_)
          go_wp2_with fail
          refine (sameMap_any _ Z1 S1 (upto k) (upto k) k k f1 g1 k (upto_len k) (upto_len k) (Y1.out.below hb10) hS1 rfl).mono ?_
          rintro e w11 ⟨rfl, hb11⟩
          refine hK _ _ hb11 ?_
          clear hK K
          have hv1 : Below wv.heap.size wv w11 := hb10.trans (hb11.mono hb10.size)
          have hCd2 := (hv1.block SC hCl).trans hCd
          have Y3 := Lib.hid (Y2.out.below hv1)
          have hbz := hbw9.trans (hv1.mono hbw9.size)
          clear hb10 hb11 hS1 Y1 Y2 hbw9
          have hCl : SC < w11.heap.size := (Array.getElem?_eq_some_iff.1 hCd2).1
          conv => arg 4; whnf
          conv => arg 4; arg 1; whnf
          refine pt_free (by rfl) (fun K hK => ?_)
          go_big_quiet_op
          first | (refine hK _ ?_; clear hK K) | (refine ⟨_, fun _ _ => rfl, hK _ ?_⟩; clear hK K)
          conv => arg 4; whnf
          conv => arg 4; arg 1; whnf
          refine pt_free (by rfl) (fun K hK => ?_)
          go_big_quiet_op
          first | (refine hK _ ?_; clear hK K) | (refine ⟨_, fun _ _ => rfl, hK _ ?_⟩; clear hK K)
          conv => arg 4; whnf
          conv => arg 4; arg 1; whnf
          refine pt_loadC (p := ⟨SC, 3, none⟩) (fun W h => load_shift2 _ W _ _ _ _ _ _ (h.trans hCd2)) hCl (by rfl) rfl rfl ?_
          simp only [Act.put, List.setIfInBounds_toArray, List.set_cons_zero, List.set_cons_succ]
          conv => arg 4; whnf
          conv => arg 4; arg 1; whnf
          refine pt_eff (by rfl) (fun K hK => ?_)
          go_wp2_with fail
          refine (same_rd _ 3 3 rfl (by omega)).mono ?_
          rintro e w12 ⟨S2, g2, rfl, hS2, hb12⟩
          refine hK _ _ hb12 ?_
          clear hK K
          conv => arg 4; whnf
          conv => arg 4; arg 1; whnf
          refine pt_eff (by rfl) (fun K hK => ?_)
          go_wp2_with fail
          refine (sameMap_any _ Z2 S2 (upto 3) (upto 3) 3 3 f2 g2 3 (upto_len 3) (upto_len 3) (Y3.out.below hb12) hS2 rfl).mono ?_
          rintro e w13 ⟨rfl, hb13⟩
          refine hK _ _ hb13 ?_
          clear hK K
          conv => arg 4; whnf
          conv => arg 4; arg 1; whnf
          refine pt_free (by rfl) (fun K hK => ?_)
          go_big_quiet_op
          first | (refine hK _ ?_; clear hK K) | (refine ⟨_, fun _ _ => rfl, hK _ ?_⟩; clear hK K)
          conv => arg 4; whnf
          conv => arg 4; arg 1; whnf
          refine pt_free (by rfl) (fun K hK => ?_)
          go_big_quiet_op
          first | (refine hK _ ?_; clear hK K) | (refine ⟨_, fun _ _ => rfl, hK _ ?_⟩; clear hK K)
          conv => arg 4; whnf
          conv => arg 4; arg 1; whnf
          refine pt_eff (by rfl) (fun K hK => ?_)
          go_wp2_with fail
          refine (awake_any _).mono ?_
          rintro e w14 ⟨rfl, hb14⟩
          refine hK _ _ hb14 ?_
          clear hK K
          conv => arg 4; whnf
          conv => arg 4; arg 1; whnf
          refine pt_free (by rfl) (fun K hK => ?_)
          go_big_quiet_op
          first | (refine hK _ ?_; clear hK K) | (refine ⟨_, fun _ _ => rfl, hK _ ?_⟩; clear hK K)
          conv => arg 4; whnf
          conv => arg 4; arg 1; whnf
          refine pt_free (by rfl) (fun K hK => ?_)
          go_big_quiet_op
          first | (refine hK _ ?_; clear hK K) | (refine ⟨_, fun _ _ => rfl, hK _ ?_⟩; clear hK K)
          refine pt_nil ?_
          go_wp2
          go_ret
          have hba := hbz.trans (hb12.mono hbz.size)
          have hbb := hba.trans (hb13.mono hba.size)
          exact ⟨rfl, hbb.trans (hb14.mono hbb.size)⟩
end Go.Proofs.Ythoccmgfpjfkoaa
