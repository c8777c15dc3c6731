/- The walk of FunNothing. Written by funnothgen.py. -/
import Derived.Test.YtcbaioagcemmnaaDoorFunNothA
import Derived.Test.YtcbaioagcemmnaaDoorRDig
import Derived.Test.YtcbaioagcemmnaaDoorValMake
import Derived.Test.YtcbaioagcemmnaaDoorPlanT
namespace Go.Proofs.YtcbaioagcemmnaaDoor
open Go.RowKit Go.Maps
/-- append of values onto an empty literal: old memory stays -/
theorem wp_appVLit {P : Program} {T e : TypeId} {z : Value} {bytes : Nat} {o : Oper} {a : Act} {K : Act → World → Prop} {Q : Exit → Act → World → Prop} {w0 : World} {s x : Operand} {G base : Nat} {A : Option Addr} {c m : Nat} {l : List V3}
    (E : EInfo P T e z 3 bytes) (ho : o.op = .call { callee := .builtin .append, args := #[s, x], argTypes := #[T, T] }) (hs : a.eval s = .slice (some ⟨G, 0, none⟩) 0 0) (hG : w0.heap[G]? = some (.cells #[] e (0, 0))) (hb : base ≤ G)
    (hx : a.eval x = .slice A m c) (hm : m = l.length) (hl : AtV w0 A l) (hbytes : m * bytes ≤ 140737488355328)
    (h : ∀ v' w', w'.ownsRow base e 3 v' m (cells3 l) → Below w0.heap.size w0 w' → K (a.put o.dst v') w') :
    o.wp P a w0 K Q := by
  obtain ⟨ht, hinfo, hzs, hsz, hby0⟩ := E
  obtain ⟨i, hi, hz, hsize, hby⟩ := info_parts hinfo
  subst hm
  have hown : w0.ownsRow base e 3 (.slice (some ⟨G, 0, none⟩) 0 0) 0 [] := ⟨rfl, .inr ⟨G, 0, #[], rfl, hb, hG, Nat.le_refl _, Nat.zero_le _, rfl, rfl⟩⟩
  have hGl := (Array.getElem?_eq_some_iff.1 hG).1
  by_cases hn : l = []
  · subst hn
    have hrun : (Builtin.append_ #[T, T] o.type #[.slice (some ⟨G, 0, none⟩) 0 0, .slice A 0 c]).run P w0 = .ok (.slice (some ⟨G, 0, none⟩) 0 0) w0 := by
      rcases A with _ | ad
      · simp [Builtin.append_, run_underlying ht, sizeOf, typeInfo, hi, Builtin.lenOf, Builtin.firstCells, storeCells]
      · have := run_append_room_cells (P := P) w0 T o.type e i ht hi G 0 0 0 ad 0 c [] (by simp) (fun j u hu => by simp at hu) (fun y hy => by simp at hy) (Nat.le_refl _) (fun j hj => by simp at hj) (fun j hj => by simp at hj)
        rw [this]
        rfl
    simp only [List.length_nil] at hx
    unfold Oper.wp execOp
    simp only [ho, resolve, invoke, builtin, Sem.run_bind, Sem.run_pure, Result.andThen_ok, List.map_toArray, List.map_cons, List.map_nil, hs, hx, hrun]
    exact h _ w0 hown (Below.refl _ _)
  · obtain ⟨b, q, rfl, hc⟩ := hl.2 (List.length_pos_iff.2 hn)
    obtain ⟨v', w', hr, r1, r2⟩ := run_append_arg_grows (P := P) (w := w0) T o.type e i z 3 bytes ht hi hz hsize hby hzs hsz ⟨G, 0, none⟩ 0 0 [] rfl (fun j u hu => by simp at hu) ⟨b, q, none⟩ l.length c (cells3 l) (by rw [cells3_len]; omega) (cells3_at hc)
      (by have := List.length_pos_iff.2 hn; omega) (by rw [Nat.zero_add]; exact len_of_bytes hby0 hbytes) (by rw [Nat.zero_add]; exact hbytes)
    unfold Oper.wp execOp
    simp only [ho, resolve, invoke, builtin, Sem.run_bind, Sem.run_pure, Result.andThen_ok, List.map_toArray, List.map_cons, List.map_nil, hs, hx, hr]
    rw [Nat.zero_add, List.nil_append] at r1
    exact h v' w' (own_base r1 (by omega)) (by have := (Below.refl w0.heap.size w0).grown r2 (Nat.le_refl _) (fun k hk => by cases hk); exact this)
/-- append of values onto a row of the call's own -/
theorem wp_appV {P : Program} {T e : TypeId} {z : Value} {bytes : Nat} {o : Oper} {a : Act} {K : Act → World → Prop} {Q : Exit → Act → World → Prop} {w0 : World} {s x : Operand} {v : Value} {n base c m : Nat} {xs : List Value} {A : Option Addr} {l : List V3} (E : EInfo P T e z 3 bytes)
    (ho : o.op = .call { callee := .builtin .append, args := #[s, x], argTypes := #[T, T] }) (hown : w0.ownsRow base e 3 v n xs) (hs : a.eval s = v)
    (hx : a.eval x = .slice A m c) (hm : m = l.length) (hl : AtV w0 A l) (hbytes : (n + m) * bytes ≤ 140737488355328) (hbase : base ≤ w0.heap.size)
    (h : ∀ v' w', w'.ownsRow base e 3 v' (n + m) (xs ++ cells3 l) → w0.grownBy w' v.ownBlock → K (a.put o.dst v') w') :
    o.wp P a w0 K Q := by
  obtain ⟨ht, hinfo, hzs, hsz, hby0⟩ := E
  obtain ⟨i, hi, hz, hsize, hby⟩ := info_parts hinfo
  subst hm
  by_cases hn : l = []
  · subst hn
    have hrun : (Builtin.append_ #[T, T] o.type #[v, .slice A 0 c]).run P w0 = .ok v w0 ∨ ∃ v' w', (Builtin.append_ #[T, T] o.type #[v, .slice A 0 c]).run P w0 = .ok v' w' ∧ w'.ownsRow base e 3 v' (n + 0) (xs ++ []) ∧ w0.grownBy w' v.ownBlock := by
      rcases A with _ | ad
      · left
        rcases hown.2 with ⟨rfl, rfl⟩ | ⟨g, cap, cur, rfl, _, _, hnc, _⟩
        · simp [Builtin.append_, run_underlying ht, sizeOf, typeInfo, hi, Builtin.lenOf, Builtin.firstCells]
        · simp [Builtin.append_, run_underlying ht, sizeOf, typeInfo, hi, Builtin.lenOf, Builtin.firstCells, hnc, storeCells]
      · right
        obtain ⟨v', w', hr, h2, h3, _, _⟩ := run_append_own_at (P := P) w0 base T o.type e i z 3 bytes ht hi hz hsize hby hzs hsz v n xs hown ad 0 c [] rfl (fun j u hu => by simp at hu) (fun y hy => by simp at hy) (len_of_bytes hby0 hbytes) hbytes hbase
        exact ⟨v', w', hr, h2, h3⟩
    simp only [List.length_nil] at hx
    rcases hrun with hrun | ⟨v', w', hrun, h2, h3⟩
    · unfold Oper.wp execOp
      simp only [ho, resolve, invoke, builtin, Sem.run_bind, Sem.run_pure, Result.andThen_ok, List.map_toArray, List.map_cons, List.map_nil, hs, hx, hrun]
      exact h v w0 (by simpa [cells3] using hown) (World.grownBy.refl _ _)
    · unfold Oper.wp execOp
      simp only [ho, resolve, invoke, builtin, Sem.run_bind, Sem.run_pure, Result.andThen_ok, List.map_toArray, List.map_cons, List.map_nil, hs, hx, hrun]
      exact h v' w' (by simpa [cells3] using h2) h3
  · obtain ⟨b, q, rfl, hc⟩ := hl.2 (List.length_pos_iff.2 hn)
    obtain ⟨v', w', hr, h2, h3, _, _⟩ := run_append_own_at (P := P) w0 base T o.type e i z 3 bytes ht hi hz hsize hby hzs hsz v n xs hown ⟨b, q, none⟩ l.length c (cells3 l) (by rw [cells3_len]; omega) (cells3_at hc) (cells3_one l) (len_of_bytes hby0 hbytes) hbytes hbase
    unfold Oper.wp execOp
    simp only [ho, resolve, invoke, builtin, Sem.run_bind, Sem.run_pure, Result.andThen_ok, List.map_toArray, List.map_cons, List.map_nil, hs, hx, hr]
    exact h v' w' h2 h3
theorem cell0 {w1 : World} {g : Nat} {cs : Array Value} {t : TypeId} {fr : Nat × Nat} (z : w1.heap[g]? = some (.cells cs t fr)) (i : Nat) (x : Value) (h : cs[i]? = some x) : w1.cell? ⟨g, i, none⟩ = some x := by simp [World.cell?, z, h]
theorem below_drew {B : Nat} {a w : World} (h : Below B a w) : Below B a w.drew := ⟨h.os, h.tape, h.output, h.size, h.block⟩
def fnames : Array Value := #[.string ⟨#[83, 85, 77]⟩, .string ⟨#[77, 73, 78]⟩, .string ⟨#[77, 65, 88]⟩, .string ⟨#[67, 79, 85, 78, 84]⟩, .string ⟨#[65, 78, 68]⟩, .string ⟨#[79, 82]⟩, .string ⟨#[67, 79, 78, 67, 65, 84]⟩]
theorem good_name {l : List Int} {k : Nat} (hk : k ≤ l.length) (hl : l.length ≤ 1000) (hw : ∀ n ∈ l, InR n) (hs : ∀ k, InR (psum (ivals l) k)) (j : Nat) (hj : j < 7) : ∃ f, fnames[j]? = some (.string f) ∧ Good f l k := by
  rcases (by omega : j = 0 ∨ j = 1 ∨ j = 2 ∨ j = 3 ∨ j = 4 ∨ j = 5 ∨ j = 6) with rfl | rfl | rfl | rfl | rfl | rfl | rfl
  · exact ⟨_, rfl, good_sum hk hl hw hs⟩
  · exact ⟨_, rfl, good_min hk hl⟩
  · exact ⟨_, rfl, good_max hk hl⟩
  · exact ⟨_, rfl, good_count hk hl⟩
  · exact ⟨_, rfl, good_and hk hl⟩
  · exact ⟨_, rfl, good_or hk hl⟩
  · exact ⟨_, rfl, good_concat hk hl hw⟩
theorem psum_le {l : List Int} (hw : ∀ n ∈ l, -2147483648 ≤ n ∧ n ≤ 2147483647) : ∀ k : Nat, -2147483648 * (k : Int) ≤ psum (ivals l) k ∧ psum (ivals l) k ≤ 2147483648 * (k : Int) := by
  intro k
  induction k with
  | zero => simp [psum]
  | succ k ih =>
    cases h : l[k]? with
    | none =>
      have e : psum (ivals l) (k + 1) = psum (ivals l) k := by
        have h1 : l.length ≤ k := List.getElem?_eq_none_iff.1 h
        unfold psum
        rw [List.take_of_length_le (by rw [ivals_len]; omega), List.take_of_length_le (by rw [ivals_len]; omega)]
      rw [e]
      omega
    | some x =>
      rw [psum_succ (ivals_get h)]
      have := hw x (List.mem_of_getElem? h)
      simp only
      omega
theorem psum_all {l : List Int} (hl : l.length ≤ 1000) (hw : ∀ n ∈ l, -2147483648 ≤ n ∧ n ≤ 2147483647) (k : Nat) : InR (psum (ivals l) k) := by
  by_cases hk : k ≤ l.length
  · have := psum_le hw k
    exact ⟨by omega, by omega⟩
  · have e : psum (ivals l) k = psum (ivals l) l.length := by
      unfold psum
      rw [List.take_of_length_le (by rw [ivals_len]; omega), List.take_of_length_le (by rw [ivals_len]; omega)]
    rw [e]
    have := psum_le hw l.length
    exact ⟨by omega, by omega⟩
theorem atV_lit1 {W : World} {G : Nat} {k n : Int} {s : ByteArray} (h : W.heap[G]? = some (.cells #[.int .i64 k, .int .i64 n, .string s] 31 (0, 0))) : AtV W (some ⟨G, 0, none⟩) [(k, n, s)] := by
  obtain ⟨q0, q1, q2, _⟩ := val3 h
  refine ⟨by simp, fun _ => ⟨G, 0, rfl, fun i x hx => ?_⟩⟩
  rcases i with _ | i
  · simp only [List.getElem?_cons_zero, Option.some.injEq] at hx
    subst hx
    exact ⟨by simpa using q0, by simpa using q1, by simpa using q2⟩
  · simp at hx
theorem cells3_wl (l : List Int) (k : Nat) : cells3 (wl l k) = cells3 (ivals (l.take k)) ++ cells3 [(0, 0, noB)] ++ cells3 (ivals (l.drop k)) := by
  unfold wl cells3
  rw [List.flatMap_append, List.flatMap_append]
theorem own_len_cap {w : World} {base n c : Nat} {e : TypeId} {size : Nat} {A : Option Addr} {xs : List Value} (h : w.ownsRow base e size (.slice A n c) n xs) : n ≤ c := by
  obtain ⟨_, _, hBe, hcap, _⟩ := own_form h
  injection hBe with _ _ hBe
  omega
set_option maxRecDepth 100000 in
set_option maxHeartbeats 4000000 in
theorem funNoth_walk (w : World) (n : Int) (A : Option Addr) (l : List Int) (c : Nat) (at_ e0 : Int) (hn : (Lit.int .u8 n).wf = true) (hl : At1 (Value.int .i32) w A l) (hw : ∀ n ∈ l, (Lit.int .i32 n).wf = true) (hat : (Lit.int .u8 at_).wf = true) (he0 : (Lit.int .u8 e0).wf = true) (hT : Tab w) :
    Calls Tryd.prog 8 #[.int .u8 n, .slice A l.length c, .int .u8 at_, .int .u8 e0] w fun e w' => e = .returned (.bool true) ∧ Below w.heap.size w w' := by
  have hn0 : 0 ≤ n ∧ n ≤ 255 := by simpa [Lit.wf, IntKind.min, IntKind.max, IntKind.signed, IntKind.bits] using hn
  have ha0 : 0 ≤ at_ ∧ at_ ≤ 255 := by simpa [Lit.wf, IntKind.min, IntKind.max, IntKind.signed, IntKind.bits] using hat
  have hl0 := hl.1
  by_cases hbig : 20 < l.length
  · have hd : decide (20 < (l.length : Int)) = true := decide_eq_true (by omega)
    clear hn0 ha0
    go_enter Tryd.func8, Tryd.ntmps8
    go_wp2_with fail
    refine (awake8 _).mono ?_
    rintro e w5 ⟨rfl, hb9⟩
    go_wp2
    go_ret
    exact ⟨rfl, hb9⟩
  have hd : decide (20 < (l.length : Int)) = false := decide_eq_false (by omega)
  have hR : ∀ x ∈ l, -2147483648 ≤ x ∧ x ≤ 2147483647 := fun x hx => by simpa [Lit.wf, IntKind.min, IntKind.max, IntKind.signed, IntKind.bits] using hw x hx
  have hl20 : l.length ≤ 20 := by omega
  obtain ⟨k, hk⟩ : ∃ k : Nat, at_.tmod ((l.length : Int) + 1) = (k : Int) := ⟨(at_.tmod ((l.length : Int) + 1)).toNat, by rw [Int.toNat_of_nonneg (Int.tmod_nonneg _ ha0.1)]⟩
  have hkl : k ≤ l.length := by
    have h1 := Int.tmod_lt_of_pos at_ (show (0 : Int) < (l.length : Int) + 1 by omega)
    omega
  obtain ⟨j, hj⟩ : ∃ j : Nat, n.tmod 7 = (j : Int) := ⟨(n.tmod 7).toNat, by rw [Int.toNat_of_nonneg (Int.tmod_nonneg _ hn0.1)]⟩
  have hj7 : j < 7 := by
    have h1 := Int.tmod_lt_of_pos n (show (0 : Int) < 7 by omega)
    omega
  obtain ⟨f, hf, hgood⟩ := good_name (k := k) hkl (show l.length ≤ 1000 by omega) (fun x hx => ⟨by have := (hR x hx).1; omega, by have := (hR x hx).2; omega⟩) (psum_all (by omega) hR) j hj7
  obtain ⟨rk, rn, rs, hgood⟩ := hgood
  obtain ⟨ta, rfl⟩ : ∃ ta : Nat, at_ = (ta : Int) := ⟨at_.toNat, by omega⟩
  have hta : ta ≤ 255 := by omega
  have he1 : 0 ≤ e0 ∧ e0 ≤ 255 := by simpa [Lit.wf, IntKind.min, IntKind.max, IntKind.signed, IntKind.bits] using he0
  have we : IntKind.i64.wrap e0 = e0 := by simp [IntKind.wrap, IntKind.signed, IntKind.bits]; omega
  have wa : IntKind.i64.wrap (ta : Int) = ta := by simp [IntKind.wrap, IntKind.signed, IntKind.bits]; omega
  have HG := Lib.hid hgood
  have HL := Lib.hid hl
  have HW := Lib.hid hw
  have HTA := Lib.hid hta
  have hfc : (w.alloc (.cells fnames 9)).cell? ⟨w.heap.size, j, none⟩ = some (.string f) := cell0 (heap_alloc_new w _) j _ hf
  have hjl : (j : Int) < 7 := by omega
  unfold fnames at hfc
  have hT1 : Tab (w.alloc (.cells fnames 9)) := hT.on ((Below.refl _ _).alloc (Nat.le_refl _) _)
  have hb0 : Below w.heap.size w (w.alloc (.cells fnames 9)) := (Below.refl _ _).alloc (Nat.le_refl _) _
  have hl1 := Lib.hid (hl.below hb0)
  unfold fnames at hT1 hb0 hl1
  have hs0 := hb0.size
  clear hw hR hn hn0 hbig hl hat he0 he1 ha0 hgood hT hta HL
  go_enter Tryd.func8, Tryd.ntmps8
  go_wp2_with fail
  refine (lints_any _ A l c hl1.out HW.out (by omega)).mono ?_
  rintro e w1 ⟨B, cap, rfl, hb1, hown1⟩
  have hcap := own_len_cap hown1
  have hV1 : AtV w1 B (ivals l) := atV_of_own hown1 (by rw [ivals_len]; omega)
  have hT2 := hT1.on hb1
  have hb2 := hb0.trans (hb1.mono hs0)
  have hkc : k ≤ cap := by omega
  clear hown1 hb1 hb0 hT1 hl1 hfc hf
  have HF := Lib.hid hkl
  by_cases hck : cap = k
  · obtain rfl : cap = l.length := by omega
    subst hck
    go_wp2_with fail
    refine wp_region_tree [7, 11, 12] (.free 1 (.free 2 (.free 3 (.free 5 (.pure 8 (.pure 9 (.pure 10 (.alt 0 (.alt 4 (.eff 6 (.last 7 (.last 11 (.last 12 .nil)))) 6 (.eff 4 (.last 7 (.last 11 (.last 12 .nil))))) 6 (.eff 0 (.eff 4 (.last 7 (.last 11 (.last 12 .nil))))))))))))) (by kernel_rfl) (by kernel_rfl) (fun _ _ d _ _ h => by cases d <;> exact h) ?_
    obtain ⟨W0, hW0⟩ : ∃ W0, W0 = w1.drew := ⟨_, rfl⟩
    rw [← hW0]
    have hb3 : Below w.heap.size w W0 := hW0 ▸ below_drew hb2
    have hT3 : Tab W0 := hW0 ▸ (show Tab w1.drew from hT2)
    have hV0 : AtV W0 B (ivals l) := hW0 ▸ (show AtV w1.drew B (ivals l) from hV1)
    have hV4 : AtV W0 B (ivals (l.take l.length)) := by rw [← ivals_take]; exact hV0.take _
    have hV11 : AtV W0 B (ivals (l.drop l.length)) := (by rw [List.drop_length]; exact AtV.nil _ _)
    have hbw : Below W0.heap.size W0 W0 := Below.refl _ _
    clear hW0 hb2 hT2 hV1
    obtain ⟨wv, hwv⟩ : ∃ wv, wv = W0 := ⟨_, rfl⟩
    have hbw : Below W0.heap.size W0 wv := hwv ▸ hbw
    rw [← hwv]
    clear hwv
    conv => arg 4; whnf
    conv => arg 4; arg 1; whnf
    refine pt_free (by rfl) (fun K hK => ?_)
    go_big_quiet_op
    first | (refine hK _ ?_; clear hK K) | (refine ⟨_, fun _ _ => rfl, hK _ ?_⟩; clear hK K)
    conv => arg 4; whnf
    conv => arg 4; arg 1; whnf
    refine pt_free (by rfl) (fun K hK => ?_)
    go_big_quiet_op
    first | (refine hK _ ?_; clear hK K) | (refine ⟨_, fun _ _ => rfl, hK _ ?_⟩; clear hK K)
    conv => arg 4; whnf
    conv => arg 4; arg 1; whnf
    refine pt_free (by rfl) (fun K hK => ?_)
    go_big_quiet_op
    first | (refine hK _ ?_; clear hK K) | (refine ⟨_, fun _ _ => rfl, hK _ ?_⟩; clear hK K)
    conv => arg 4; whnf
    conv => arg 4; arg 1; whnf
    refine pt_free (by rfl) (fun K hK => ?_)
    go_big_quiet_op
    first | (refine hK _ ?_; clear hK K) | (refine ⟨_, fun _ _ => rfl, hK _ ?_⟩; clear hK K)
    conv => arg 4; whnf
    conv => arg 4; arg 1; whnf
    refine pt_pure (by rfl) (fun K hK => ?_)
    go_big_quiet_op
    first | (refine hK _ ?_; clear hK K) | (refine ⟨_, fun _ _ => rfl, hK _ ?_⟩; clear hK K)
    conv => arg 4; whnf
    conv => arg 4; arg 1; whnf
    refine pt_pure (by rfl) (fun K hK => ?_)
    go_big_quiet_op
    first | (refine hK _ ?_; clear hK K) | (refine ⟨_, fun _ _ => rfl, hK _ ?_⟩; clear hK K)
    conv => arg 4; whnf
    conv => arg 4; arg 1; whnf
    refine pt_pure (by rfl) (fun K hK => ?_)
    go_big_quiet_op
    first | (refine hK _ ?_; clear hK K) | (refine ⟨_, fun _ _ => rfl, hK _ ?_⟩; clear hK K)
    conv => arg 4; whnf
    refine pt_alt ?_ ?_
    · conv => arg 4; whnf
      conv => arg 4; arg 1; whnf
      refine pt_eff (by rfl) (fun K hK => ?_)
      go_wp2
      refine hK _ _ (show Ext wv _ from (Below.refl _ _).alloc (Nat.le_refl _) _) ?_
      clear hK K
      have hE := heap_alloc_new wv (.cells #[] 31)
      have hGb := hbw.size
      have hbx : Below wv.heap.size wv (wv.alloc (.cells #[] 31)) := (Below.refl _ _).alloc (Nat.le_refl _) _
      have hbw := hbw.trans (hbx.mono hGb)
      clear hbx
      obtain ⟨G, hG⟩ : ∃ G, wv.heap.size = G := ⟨_, rfl⟩
      rw [hG] at hE hGb ⊢
      clear hG
      generalize wv.alloc (.cells #[] 31) = wv at *
      conv => arg 4; whnf
      refine pt_alt ?_ ?_
      · conv => arg 4; whnf
        conv => arg 4; arg 1; whnf
        refine pt_eff (by rfl) (fun K hK => ?_)
        refine wp_appVLit (base := W0.heap.size) eVal (by rfl) (by rfl) hE hGb (by rfl) (by rw [ivals_len]; simp) (hV4.below hbw) (by omega) (fun v1 w4 hown hbx => ?_)
        obtain ⟨A1, c1, rfl, _⟩ := own_form hown
        refine hK _ _ hbx ?_
        clear hK K hE hGb
        simp only [Act.put, List.setIfInBounds_toArray, List.set_cons_zero, List.set_cons_succ]
        have hbw := hbw.trans (hbx.mono hbw.size)
        clear hbx
        generalize w4 = wv at *
        conv => arg 4; whnf
        conv => arg 4; arg 1; whnf
        refine pt_eff (by rfl) (fun K hK => ?_)
        go_wp2
        refine hK _ _ (show Ext wv _ from (Below.refl _ _).alloc (Nat.le_refl _) _) ?_
        clear hK K
        have hbx : Below wv.heap.size wv (wv.alloc (.cells #[.int .i64 0, .int .i64 0, .string ⟨#[]⟩] 31)) := (Below.refl _ _).alloc (Nat.le_refl _) _
        have h6 : AtV (wv.alloc (.cells #[.int .i64 0, .int .i64 0, .string ⟨#[]⟩] 31)) (some ⟨wv.heap.size, 0, none⟩) [(0, 0, ⟨#[]⟩)] := atV_lit1 (heap_alloc_new wv _)
        have hown := own_below hown hbx
        have hbw := hbw.trans (hbx.mono hbw.size)
        clear hbx
        obtain ⟨S, hS⟩ : ∃ S, wv.heap.size = S := ⟨_, rfl⟩
        rw [hS] at h6 ⊢
        clear hS
        generalize wv.alloc (.cells #[.int .i64 0, .int .i64 0, .string ⟨#[]⟩] 31) = wv at *
        conv => arg 4; whnf
        conv => arg 4; arg 1; whnf
        refine pt_last (by rfl) (fun K hK => ?_)
        refine wp_appV (m := 1) (n := l.length) eVal (by rfl) hown (by rfl) (by rfl) rfl h6 (by omega) hbw.size (fun v2 w7 hown7 hg7 => ?_)
        obtain ⟨A7, c7, rfl, _⟩ := own_form hown7
        refine hK _ _ ?_
        clear hK K h6
        have hbw := below_grown hbw hown hg7 (Nat.le_refl _) hbw.size
        clear hown hg7
        simp only [Act.put, List.setIfInBounds_toArray, List.set_cons_zero, List.set_cons_succ]
        generalize w7 = wv at *
        conv => arg 4; whnf
        conv => arg 4; arg 1; whnf
        refine pt_last (by rfl) (fun K hK => ?_)
        refine wp_appV (m := 0) (n := l.length + 1) eVal (by rfl) hown7 (by rfl) (by rfl) (by rw [ivals_len]; simp) (hV11.below hbw) (by omega) hbw.size (fun v3 w9 hown9 hg9 => ?_)
        obtain ⟨A9, c9, rfl, _⟩ := own_form hown9
        refine hK _ _ ?_
        clear hK K
        have hbw := below_grown hbw hown7 hg9 (Nat.le_refl _) hbw.size
        clear hown7 hg9
        simp only [Act.put, List.setIfInBounds_toArray, List.set_cons_zero, List.set_cons_succ]
        conv => arg 4; whnf
        conv => arg 4; arg 1; whnf
        refine pt_last (by rfl) (fun K hK => ?_)
        go_wp2
        refine pt_nil ?_
        have hV9 := hV0.below hbw
        have hW9 : AtV w9 A9 (wl l l.length) := atV_of_own (n := l.length + 1 + 0) (c := c9) (base := W0.heap.size) (by rw [cells3_wl]; exact hown9) (by rw [wl_len (by omega)]; omega)
        have hM : l.length + 1 + 0 = (wl l l.length).length := by rw [wl_len (by omega)]; all_goals (try omega)
        have hT9 := hT3.on hbw
        have hb9 : Below w.heap.size w w9 := hb3.trans (hbw.mono hb3.size)
        have HW9 := Lib.hid hW9
        have HV9 := Lib.hid hV9
        have HT9 := Lib.hid hT9
        obtain ⟨m, hm⟩ : ∃ m, l.length + 1 + 0 = m := ⟨_, rfl⟩
        (try rw [hm])
        rw [hm] at hM
        have HM := Lib.hid hM
        clear hM hm hown9 hW9 hV9 hT9 hV0 hV4 hV11 hbw hb3 hT3
        have hD9 : (Lib.itoa (ta : Int)).length ≤ 25 := by have := HTA.out; have := Lib.itoa_length_le (ta : Int) (by omega) (by omega); omega
        have CD := Lib.hid (fun W => rdig_pos W ta (by have := HTA.out; omega))
        obtain ⟨D, hD⟩ : ∃ D, Lib.itoa (ta : Int) = D := ⟨_, rfl⟩
        rw [hD] at CD hD9
        have hnm : (⟨#[78, 79, 80, 69]⟩ ++ ⟨D.toArray⟩ : ByteArray).data.toList = 78 :: 79 :: 80 :: 69 :: D := by simp [ByteArray.data_append]
        have hns : (⟨#[78, 79, 80, 69]⟩ ++ ⟨D.toArray⟩ : ByteArray).size ≤ maxLen := by
          have : (⟨#[78, 79, 80, 69]⟩ ++ ⟨D.toArray⟩ : ByteArray).size = 4 + D.length := by simp [ByteArray.size]; omega
          unfold maxLen
          omega
        have CM := Lib.hid (fun (W : World) (G : Nat) => call_miss W (some ⟨G, 0, none⟩) 1 1 (⟨#[78, 79, 80, 69]⟩ ++ ⟨D.toArray⟩) hns (by rw [hnm]; exact name_miss _ _ _ _))
        have MK := Lib.hid (show ∀ W : World, Calls Tryd.prog 13 #[.int .u8 4, .int .i64 e0, .string ⟨#[]⟩] W fun e w' => e = .returned (.agg #[.int .i64 4, .int .i64 (1 + (bits .and .i64 e0 1023) % 6), .string ⟨#[]⟩]) ∧ Below W.heap.size W w' from fun W => make_k4 W 4 e0 ⟨#[]⟩ rfl)
        obtain ⟨en, hen⟩ : ∃ en, 1 + (bits .and .i64 e0 1023) % 6 = en := ⟨_, rfl⟩
        rw [hen] at MK
        clear hD hnm hns hen
        go_wp2_with fail
        refine (CD.out _).mono ?_
        rintro e w10 ⟨rfl, hbx⟩
        have HV9 := Lib.hid (HV9.out.below hbx)
        have HW9 := Lib.hid (HW9.out.below hbx)
        have HT9 := Lib.hid (HT9.out.on hbx)
        have hb10 := hb9.trans (hbx.mono hb9.size)
        clear hbx hb9 CD
        have hns : (⟨#[78, 79, 80, 69]⟩ ++ ⟨D.toArray⟩ : ByteArray).size ≤ 9223372036854775807 := by
          have : (⟨#[78, 79, 80, 69]⟩ ++ ⟨D.toArray⟩ : ByteArray).size = 4 + D.length := by simp [ByteArray.size]; omega
          omega
        obtain ⟨NM, hNM⟩ : ∃ NM, (⟨#[78, 79, 80, 69]⟩ ++ ⟨D.toArray⟩ : ByteArray) = NM := ⟨_, rfl⟩
        rw [hNM] at CM hns
        go_wp2_with fail
        refine (MK.out _).mono ?_
        rintro e w11 ⟨rfl, hbx⟩
        have HV9 := Lib.hid (HV9.out.below hbx)
        have HW9 := Lib.hid (HW9.out.below hbx)
        have HT9 := Lib.hid (HT9.out.on hbx)
        have hb11 := hb10.trans (hbx.mono hb10.size)
        clear hbx hb10 MK
        go_wp2_with fail
        refine (lone_any _ 4 en ⟨#[]⟩).mono ?_
        rintro e w12 ⟨g, rfl, hbx, _⟩
        have HV9 := Lib.hid (HV9.out.below hbx)
        have HW9 := Lib.hid (HW9.out.below hbx)
        have HT9 := Lib.hid (HT9.out.on hbx)
        have hb12 := hb11.trans (hbx.mono hb11.size)
        clear hbx hb11
        go_wp2_with fail
        refine (CM.out _ _).mono ?_
        rintro e w13 ⟨rfl, hby⟩
        have hbx : Below w12.heap.size w12 w13 := ((Below.refl _ _).alloc (Nat.le_refl _) _).trans (hby.mono (by simp))
        have HV9 := Lib.hid (HV9.out.below hbx)
        have HW9 := Lib.hid (HW9.out.below hbx)
        have HT9 := Lib.hid (HT9.out.on hbx)
        have hb13 := hb12.trans (hbx.mono hb12.size)
        clear hbx hby hb12 CM
        have hbx : Below w13.heap.size w13 (w13.alloc (.cells #[.int .i64 4, .int .i64 5, .string ⟨#[]⟩] 31)) := (Below.refl _ _).alloc (Nat.le_refl _) _
        have hX := heap_alloc_new w13 (.cells #[.int .i64 4, .int .i64 5, .string ⟨#[]⟩] 31)
        have HV9 := Lib.hid (HV9.out.below hbx)
        have HW9 := Lib.hid (HW9.out.below hbx)
        have HT9 := Lib.hid (HT9.out.on hbx)
        have hb14 := hb13.trans (hbx.mono hb13.size)
        clear hbx hb13
        go_wp2_with fail
        obtain ⟨X, hXe⟩ : ∃ X, w13.heap.size = X := ⟨_, rfl⟩
        obtain ⟨w14, hw14⟩ : ∃ w14, w14 = w13.alloc (.cells #[.int .i64 4, .int .i64 5, .string ⟨#[]⟩] 31) := ⟨_, rfl⟩
        rw [hXe] at hX
        rw [← hw14] at hX HV9 HW9 HT9 hb14
        (try rw [hXe])
        (try rw [← hw14])
        have hs14 : w14.heap.size = X + 1 := by rw [hw14, World.size_alloc, hXe]
        clear hw14 hXe
        have hXl := (Array.getElem?_eq_some_iff.1 hX).1
        have hbx : Below w14.heap.size w14 (w14.alloc (.cells #[.bool true, .int .i64 1, .slice B l.length l.length] 27)) := (Below.refl _ _).alloc (Nat.le_refl _) _
        have hAA : AtA (w14.alloc (.cells #[.bool true, .int .i64 1, .slice B l.length l.length] 27)) (some ⟨w14.heap.size, 0, none⟩) [⟨true, 1, B, ivals l, l.length⟩] :=
          atA_lit (by simp) (heap_alloc_new w14 _) (by simp [argCells, ivals_len]) (fun a ha => by
            simp only [List.mem_cons, List.not_mem_nil, or_false] at ha
            subst ha
            exact HV9.out.below hbx)
        rw [hs14] at hAA
        refine (HG.out _ (.inl rfl) _ _ _ _ (HT9.out.on hbx) hAA).mono ?_
        rintro e w15 ⟨rfl, hby⟩
        have hbz := hbx.trans (hby.mono hbx.size)
        have HW9 := Lib.hid (HW9.out.below hbz)
        have HT9 := Lib.hid (HT9.out.on hbz)
        have hX := (hbz.block _ hXl).trans hX
        have hb15 := hb14.trans (hbz.mono hb14.size)
        clear hbx hby hbz hAA HV9 hXl hb14
        have hXl := (Array.getElem?_eq_some_iff.1 hX).1
        go_wp2_with fail
        obtain rfl := HM.out
        have hbx : Below w15.heap.size w15 (w15.alloc (.cells #[.bool true, .int .i64 1, .slice A9 (wl l l.length).length c9] 27)) := (Below.refl _ _).alloc (Nat.le_refl _) _
        have hAA : AtA (w15.alloc (.cells #[.bool true, .int .i64 1, .slice A9 (wl l l.length).length c9] 27)) (some ⟨w15.heap.size, 0, none⟩) [⟨true, 1, A9, wl l l.length, c9⟩] :=
          atA_lit (by simp) (heap_alloc_new w15 _) rfl (fun a ha => by
            simp only [List.mem_cons, List.not_mem_nil, or_false] at ha
            subst ha
            exact HW9.out.below hbx)
        refine (HG.out _ (.inr rfl) _ _ _ _ (HT9.out.on hbx) hAA).mono ?_
        rintro e w16 ⟨rfl, hby⟩
        have hbz := hbx.trans (hby.mono hbx.size)
        have hX := (hbz.block _ hXl).trans hX
        have hb16 := hb15.trans (hbz.mono hb15.size)
        clear hbx hby hbz hAA HW9 HT9 hXl hb15
        have sty := str_eq_true (rfl : rs = rs)
        obtain ⟨p0, p1, p2, _⟩ := val3 hX
        go_wp2_with fail
        refine (awake8 _).mono ?_
        rintro e w17 ⟨rfl, hby⟩
        have hb17 := hb16.trans (hby.mono hb16.size)
        clear hb16 hby hX p0 p1 p2
        go_wp2
        go_ret
        exact ⟨rfl, hb17⟩
      · conv => arg 4; whnf
        conv => arg 4; arg 1; whnf
        refine pt_eff (by rfl) (fun K hK => ?_)
        go_wp2
        refine hK _ _ (show Ext wv _ from (Below.refl _ _).alloc (Nat.le_refl _) _) ?_
        clear hK K
        have hbx : Below wv.heap.size wv (wv.alloc (.cells #[.int .i64 0, .int .i64 0, .string ⟨#[]⟩] 31)) := (Below.refl _ _).alloc (Nat.le_refl _) _
        have h6 : AtV (wv.alloc (.cells #[.int .i64 0, .int .i64 0, .string ⟨#[]⟩] 31)) (some ⟨wv.heap.size, 0, none⟩) [(0, 0, ⟨#[]⟩)] := atV_lit1 (heap_alloc_new wv _)
        have hE := (hbx.block _ (Array.getElem?_eq_some_iff.1 hE).1).trans hE
        have hbw := hbw.trans (hbx.mono hbw.size)
        clear hbx
        obtain ⟨S, hS⟩ : ∃ S, wv.heap.size = S := ⟨_, rfl⟩
        rw [hS] at h6 ⊢
        clear hS
        generalize wv.alloc (.cells #[.int .i64 0, .int .i64 0, .string ⟨#[]⟩] 31) = wv at *
        conv => arg 4; whnf
        conv => arg 4; arg 1; whnf
        refine pt_eff (by rfl) (fun K hK => ?_)
        refine wp_appVLit (base := W0.heap.size) eVal (by rfl) (by rfl) hE hGb (by rfl) (by rw [ivals_len]; simp) (hV4.below hbw) (by omega) (fun v1 w4 hown hbx => ?_)
        obtain ⟨A1, c1, rfl, _⟩ := own_form hown
        refine hK _ _ hbx ?_
        clear hK K hE hGb
        simp only [Act.put, List.setIfInBounds_toArray, List.set_cons_zero, List.set_cons_succ]
        have hbw := hbw.trans (hbx.mono hbw.size)
        have h6 := h6.below hbx
        clear hbx
        generalize w4 = wv at *
        conv => arg 4; whnf
        conv => arg 4; arg 1; whnf
        refine pt_last (by rfl) (fun K hK => ?_)
        refine wp_appV (m := 1) (n := l.length) eVal (by rfl) hown (by rfl) (by rfl) rfl h6 (by omega) hbw.size (fun v2 w7 hown7 hg7 => ?_)
        obtain ⟨A7, c7, rfl, _⟩ := own_form hown7
        refine hK _ _ ?_
        clear hK K h6
        have hbw := below_grown hbw hown hg7 (Nat.le_refl _) hbw.size
        clear hown hg7
        simp only [Act.put, List.setIfInBounds_toArray, List.set_cons_zero, List.set_cons_succ]
        generalize w7 = wv at *
        conv => arg 4; whnf
        conv => arg 4; arg 1; whnf
        refine pt_last (by rfl) (fun K hK => ?_)
        refine wp_appV (m := 0) (n := l.length + 1) eVal (by rfl) hown7 (by rfl) (by rfl) (by rw [ivals_len]; simp) (hV11.below hbw) (by omega) hbw.size (fun v3 w9 hown9 hg9 => ?_)
        obtain ⟨A9, c9, rfl, _⟩ := own_form hown9
        refine hK _ _ ?_
        clear hK K
        have hbw := below_grown hbw hown7 hg9 (Nat.le_refl _) hbw.size
        clear hown7 hg9
        simp only [Act.put, List.setIfInBounds_toArray, List.set_cons_zero, List.set_cons_succ]
        conv => arg 4; whnf
        conv => arg 4; arg 1; whnf
        refine pt_last (by rfl) (fun K hK => ?_)
        go_wp2
        refine pt_nil ?_
        have hV9 := hV0.below hbw
        have hW9 : AtV w9 A9 (wl l l.length) := atV_of_own (n := l.length + 1 + 0) (c := c9) (base := W0.heap.size) (by rw [cells3_wl]; exact hown9) (by rw [wl_len (by omega)]; omega)
        have hM : l.length + 1 + 0 = (wl l l.length).length := by rw [wl_len (by omega)]; all_goals (try omega)
        have hT9 := hT3.on hbw
        have hb9 : Below w.heap.size w w9 := hb3.trans (hbw.mono hb3.size)
        have HW9 := Lib.hid hW9
        have HV9 := Lib.hid hV9
        have HT9 := Lib.hid hT9
        obtain ⟨m, hm⟩ : ∃ m, l.length + 1 + 0 = m := ⟨_, rfl⟩
        (try rw [hm])
        rw [hm] at hM
        have HM := Lib.hid hM
        clear hM hm hown9 hW9 hV9 hT9 hV0 hV4 hV11 hbw hb3 hT3
        have hD9 : (Lib.itoa (ta : Int)).length ≤ 25 := by have := HTA.out; have := Lib.itoa_length_le (ta : Int) (by omega) (by omega); omega
        have CD := Lib.hid (fun W => rdig_pos W ta (by have := HTA.out; omega))
        obtain ⟨D, hD⟩ : ∃ D, Lib.itoa (ta : Int) = D := ⟨_, rfl⟩
        rw [hD] at CD hD9
        have hnm : (⟨#[78, 79, 80, 69]⟩ ++ ⟨D.toArray⟩ : ByteArray).data.toList = 78 :: 79 :: 80 :: 69 :: D := by simp [ByteArray.data_append]
        have hns : (⟨#[78, 79, 80, 69]⟩ ++ ⟨D.toArray⟩ : ByteArray).size ≤ maxLen := by
          have : (⟨#[78, 79, 80, 69]⟩ ++ ⟨D.toArray⟩ : ByteArray).size = 4 + D.length := by simp [ByteArray.size]; omega
          unfold maxLen
          omega
        have CM := Lib.hid (fun (W : World) (G : Nat) => call_miss W (some ⟨G, 0, none⟩) 1 1 (⟨#[78, 79, 80, 69]⟩ ++ ⟨D.toArray⟩) hns (by rw [hnm]; exact name_miss _ _ _ _))
        have MK := Lib.hid (show ∀ W : World, Calls Tryd.prog 13 #[.int .u8 4, .int .i64 e0, .string ⟨#[]⟩] W fun e w' => e = .returned (.agg #[.int .i64 4, .int .i64 (1 + (bits .and .i64 e0 1023) % 6), .string ⟨#[]⟩]) ∧ Below W.heap.size W w' from fun W => make_k4 W 4 e0 ⟨#[]⟩ rfl)
        obtain ⟨en, hen⟩ : ∃ en, 1 + (bits .and .i64 e0 1023) % 6 = en := ⟨_, rfl⟩
        rw [hen] at MK
        clear hD hnm hns hen
        go_wp2_with fail
        refine (CD.out _).mono ?_
        rintro e w10 ⟨rfl, hbx⟩
        have HV9 := Lib.hid (HV9.out.below hbx)
        have HW9 := Lib.hid (HW9.out.below hbx)
        have HT9 := Lib.hid (HT9.out.on hbx)
        have hb10 := hb9.trans (hbx.mono hb9.size)
        clear hbx hb9 CD
        have hns : (⟨#[78, 79, 80, 69]⟩ ++ ⟨D.toArray⟩ : ByteArray).size ≤ 9223372036854775807 := by
          have : (⟨#[78, 79, 80, 69]⟩ ++ ⟨D.toArray⟩ : ByteArray).size = 4 + D.length := by simp [ByteArray.size]; omega
          omega
        obtain ⟨NM, hNM⟩ : ∃ NM, (⟨#[78, 79, 80, 69]⟩ ++ ⟨D.toArray⟩ : ByteArray) = NM := ⟨_, rfl⟩
        rw [hNM] at CM hns
        go_wp2_with fail
        refine (MK.out _).mono ?_
        rintro e w11 ⟨rfl, hbx⟩
        have HV9 := Lib.hid (HV9.out.below hbx)
        have HW9 := Lib.hid (HW9.out.below hbx)
        have HT9 := Lib.hid (HT9.out.on hbx)
        have hb11 := hb10.trans (hbx.mono hb10.size)
        clear hbx hb10 MK
        go_wp2_with fail
        refine (lone_any _ 4 en ⟨#[]⟩).mono ?_
        rintro e w12 ⟨g, rfl, hbx, _⟩
        have HV9 := Lib.hid (HV9.out.below hbx)
        have HW9 := Lib.hid (HW9.out.below hbx)
        have HT9 := Lib.hid (HT9.out.on hbx)
        have hb12 := hb11.trans (hbx.mono hb11.size)
        clear hbx hb11
        go_wp2_with fail
        refine (CM.out _ _).mono ?_
        rintro e w13 ⟨rfl, hby⟩
        have hbx : Below w12.heap.size w12 w13 := ((Below.refl _ _).alloc (Nat.le_refl _) _).trans (hby.mono (by simp))
        have HV9 := Lib.hid (HV9.out.below hbx)
        have HW9 := Lib.hid (HW9.out.below hbx)
        have HT9 := Lib.hid (HT9.out.on hbx)
        have hb13 := hb12.trans (hbx.mono hb12.size)
        clear hbx hby hb12 CM
        have hbx : Below w13.heap.size w13 (w13.alloc (.cells #[.int .i64 4, .int .i64 5, .string ⟨#[]⟩] 31)) := (Below.refl _ _).alloc (Nat.le_refl _) _
        have hX := heap_alloc_new w13 (.cells #[.int .i64 4, .int .i64 5, .string ⟨#[]⟩] 31)
        have HV9 := Lib.hid (HV9.out.below hbx)
        have HW9 := Lib.hid (HW9.out.below hbx)
        have HT9 := Lib.hid (HT9.out.on hbx)
        have hb14 := hb13.trans (hbx.mono hb13.size)
        clear hbx hb13
        go_wp2_with fail
        obtain ⟨X, hXe⟩ : ∃ X, w13.heap.size = X := ⟨_, rfl⟩
        obtain ⟨w14, hw14⟩ : ∃ w14, w14 = w13.alloc (.cells #[.int .i64 4, .int .i64 5, .string ⟨#[]⟩] 31) := ⟨_, rfl⟩
        rw [hXe] at hX
        rw [← hw14] at hX HV9 HW9 HT9 hb14
        (try rw [hXe])
        (try rw [← hw14])
        have hs14 : w14.heap.size = X + 1 := by rw [hw14, World.size_alloc, hXe]
        clear hw14 hXe
        have hXl := (Array.getElem?_eq_some_iff.1 hX).1
        have hbx : Below w14.heap.size w14 (w14.alloc (.cells #[.bool true, .int .i64 1, .slice B l.length l.length] 27)) := (Below.refl _ _).alloc (Nat.le_refl _) _
        have hAA : AtA (w14.alloc (.cells #[.bool true, .int .i64 1, .slice B l.length l.length] 27)) (some ⟨w14.heap.size, 0, none⟩) [⟨true, 1, B, ivals l, l.length⟩] :=
          atA_lit (by simp) (heap_alloc_new w14 _) (by simp [argCells, ivals_len]) (fun a ha => by
            simp only [List.mem_cons, List.not_mem_nil, or_false] at ha
            subst ha
            exact HV9.out.below hbx)
        rw [hs14] at hAA
        refine (HG.out _ (.inl rfl) _ _ _ _ (HT9.out.on hbx) hAA).mono ?_
        rintro e w15 ⟨rfl, hby⟩
        have hbz := hbx.trans (hby.mono hbx.size)
        have HW9 := Lib.hid (HW9.out.below hbz)
        have HT9 := Lib.hid (HT9.out.on hbz)
        have hX := (hbz.block _ hXl).trans hX
        have hb15 := hb14.trans (hbz.mono hb14.size)
        clear hbx hby hbz hAA HV9 hXl hb14
        have hXl := (Array.getElem?_eq_some_iff.1 hX).1
        go_wp2_with fail
        obtain rfl := HM.out
        have hbx : Below w15.heap.size w15 (w15.alloc (.cells #[.bool true, .int .i64 1, .slice A9 (wl l l.length).length c9] 27)) := (Below.refl _ _).alloc (Nat.le_refl _) _
        have hAA : AtA (w15.alloc (.cells #[.bool true, .int .i64 1, .slice A9 (wl l l.length).length c9] 27)) (some ⟨w15.heap.size, 0, none⟩) [⟨true, 1, A9, wl l l.length, c9⟩] :=
          atA_lit (by simp) (heap_alloc_new w15 _) rfl (fun a ha => by
            simp only [List.mem_cons, List.not_mem_nil, or_false] at ha
            subst ha
            exact HW9.out.below hbx)
        refine (HG.out _ (.inr rfl) _ _ _ _ (HT9.out.on hbx) hAA).mono ?_
        rintro e w16 ⟨rfl, hby⟩
        have hbz := hbx.trans (hby.mono hbx.size)
        have hX := (hbz.block _ hXl).trans hX
        have hb16 := hb15.trans (hbz.mono hb15.size)
        clear hbx hby hbz hAA HW9 HT9 hXl hb15
        have sty := str_eq_true (rfl : rs = rs)
        obtain ⟨p0, p1, p2, _⟩ := val3 hX
        go_wp2_with fail
        refine (awake8 _).mono ?_
        rintro e w17 ⟨rfl, hby⟩
        have hb17 := hb16.trans (hby.mono hb16.size)
        clear hb16 hby hX p0 p1 p2
        go_wp2
        go_ret
        exact ⟨rfl, hb17⟩
    · conv => arg 4; whnf
      conv => arg 4; arg 1; whnf
      refine pt_eff (by rfl) (fun K hK => ?_)
      go_wp2
      refine hK _ _ (show Ext wv _ from (Below.refl _ _).alloc (Nat.le_refl _) _) ?_
      clear hK K
      have hbx : Below wv.heap.size wv (wv.alloc (.cells #[.int .i64 0, .int .i64 0, .string ⟨#[]⟩] 31)) := (Below.refl _ _).alloc (Nat.le_refl _) _
      have h6 : AtV (wv.alloc (.cells #[.int .i64 0, .int .i64 0, .string ⟨#[]⟩] 31)) (some ⟨wv.heap.size, 0, none⟩) [(0, 0, ⟨#[]⟩)] := atV_lit1 (heap_alloc_new wv _)
      have hbw := hbw.trans (hbx.mono hbw.size)
      clear hbx
      obtain ⟨S, hS⟩ : ∃ S, wv.heap.size = S := ⟨_, rfl⟩
      rw [hS] at h6 ⊢
      clear hS
      generalize wv.alloc (.cells #[.int .i64 0, .int .i64 0, .string ⟨#[]⟩] 31) = wv at *
      conv => arg 4; whnf
      conv => arg 4; arg 1; whnf
      refine pt_eff (by rfl) (fun K hK => ?_)
      go_wp2
      refine hK _ _ (show Ext wv _ from (Below.refl _ _).alloc (Nat.le_refl _) _) ?_
      clear hK K
      have hE := heap_alloc_new wv (.cells #[] 31)
      have hGb := hbw.size
      have hbx : Below wv.heap.size wv (wv.alloc (.cells #[] 31)) := (Below.refl _ _).alloc (Nat.le_refl _) _
      have hbw := hbw.trans (hbx.mono hGb)
      have h6 := h6.below hbx
      clear hbx
      obtain ⟨G, hG⟩ : ∃ G, wv.heap.size = G := ⟨_, rfl⟩
      rw [hG] at hE hGb ⊢
      clear hG
      generalize wv.alloc (.cells #[] 31) = wv at *
      conv => arg 4; whnf
      conv => arg 4; arg 1; whnf
      refine pt_eff (by rfl) (fun K hK => ?_)
      refine wp_appVLit (base := W0.heap.size) eVal (by rfl) (by rfl) hE hGb (by rfl) (by rw [ivals_len]; simp) (hV4.below hbw) (by omega) (fun v1 w4 hown hbx => ?_)
      obtain ⟨A1, c1, rfl, _⟩ := own_form hown
      refine hK _ _ hbx ?_
      clear hK K hE hGb
      simp only [Act.put, List.setIfInBounds_toArray, List.set_cons_zero, List.set_cons_succ]
      have hbw := hbw.trans (hbx.mono hbw.size)
      have h6 := h6.below hbx
      clear hbx
      generalize w4 = wv at *
      conv => arg 4; whnf
      conv => arg 4; arg 1; whnf
      refine pt_last (by rfl) (fun K hK => ?_)
      refine wp_appV (m := 1) (n := l.length) eVal (by rfl) hown (by rfl) (by rfl) rfl h6 (by omega) hbw.size (fun v2 w7 hown7 hg7 => ?_)
      obtain ⟨A7, c7, rfl, _⟩ := own_form hown7
      refine hK _ _ ?_
      clear hK K h6
      have hbw := below_grown hbw hown hg7 (Nat.le_refl _) hbw.size
      clear hown hg7
      simp only [Act.put, List.setIfInBounds_toArray, List.set_cons_zero, List.set_cons_succ]
      generalize w7 = wv at *
      conv => arg 4; whnf
      conv => arg 4; arg 1; whnf
      refine pt_last (by rfl) (fun K hK => ?_)
      refine wp_appV (m := 0) (n := l.length + 1) eVal (by rfl) hown7 (by rfl) (by rfl) (by rw [ivals_len]; simp) (hV11.below hbw) (by omega) hbw.size (fun v3 w9 hown9 hg9 => ?_)
      obtain ⟨A9, c9, rfl, _⟩ := own_form hown9
      refine hK _ _ ?_
      clear hK K
      have hbw := below_grown hbw hown7 hg9 (Nat.le_refl _) hbw.size
      clear hown7 hg9
      simp only [Act.put, List.setIfInBounds_toArray, List.set_cons_zero, List.set_cons_succ]
      conv => arg 4; whnf
      conv => arg 4; arg 1; whnf
      refine pt_last (by rfl) (fun K hK => ?_)
      go_wp2
      refine pt_nil ?_
      have hV9 := hV0.below hbw
      have hW9 : AtV w9 A9 (wl l l.length) := atV_of_own (n := l.length + 1 + 0) (c := c9) (base := W0.heap.size) (by rw [cells3_wl]; exact hown9) (by rw [wl_len (by omega)]; omega)
      have hM : l.length + 1 + 0 = (wl l l.length).length := by rw [wl_len (by omega)]; all_goals (try omega)
      have hT9 := hT3.on hbw
      have hb9 : Below w.heap.size w w9 := hb3.trans (hbw.mono hb3.size)
      have HW9 := Lib.hid hW9
      have HV9 := Lib.hid hV9
      have HT9 := Lib.hid hT9
      obtain ⟨m, hm⟩ : ∃ m, l.length + 1 + 0 = m := ⟨_, rfl⟩
      (try rw [hm])
      rw [hm] at hM
      have HM := Lib.hid hM
      clear hM hm hown9 hW9 hV9 hT9 hV0 hV4 hV11 hbw hb3 hT3
      have hD9 : (Lib.itoa (ta : Int)).length ≤ 25 := by have := HTA.out; have := Lib.itoa_length_le (ta : Int) (by omega) (by omega); omega
      have CD := Lib.hid (fun W => rdig_pos W ta (by have := HTA.out; omega))
      obtain ⟨D, hD⟩ : ∃ D, Lib.itoa (ta : Int) = D := ⟨_, rfl⟩
      rw [hD] at CD hD9
      have hnm : (⟨#[78, 79, 80, 69]⟩ ++ ⟨D.toArray⟩ : ByteArray).data.toList = 78 :: 79 :: 80 :: 69 :: D := by simp [ByteArray.data_append]
      have hns : (⟨#[78, 79, 80, 69]⟩ ++ ⟨D.toArray⟩ : ByteArray).size ≤ maxLen := by
        have : (⟨#[78, 79, 80, 69]⟩ ++ ⟨D.toArray⟩ : ByteArray).size = 4 + D.length := by simp [ByteArray.size]; omega
        unfold maxLen
        omega
      have CM := Lib.hid (fun (W : World) (G : Nat) => call_miss W (some ⟨G, 0, none⟩) 1 1 (⟨#[78, 79, 80, 69]⟩ ++ ⟨D.toArray⟩) hns (by rw [hnm]; exact name_miss _ _ _ _))
      have MK := Lib.hid (show ∀ W : World, Calls Tryd.prog 13 #[.int .u8 4, .int .i64 e0, .string ⟨#[]⟩] W fun e w' => e = .returned (.agg #[.int .i64 4, .int .i64 (1 + (bits .and .i64 e0 1023) % 6), .string ⟨#[]⟩]) ∧ Below W.heap.size W w' from fun W => make_k4 W 4 e0 ⟨#[]⟩ rfl)
      obtain ⟨en, hen⟩ : ∃ en, 1 + (bits .and .i64 e0 1023) % 6 = en := ⟨_, rfl⟩
      rw [hen] at MK
      clear hD hnm hns hen
      go_wp2_with fail
      refine (CD.out _).mono ?_
      rintro e w10 ⟨rfl, hbx⟩
      have HV9 := Lib.hid (HV9.out.below hbx)
      have HW9 := Lib.hid (HW9.out.below hbx)
      have HT9 := Lib.hid (HT9.out.on hbx)
      have hb10 := hb9.trans (hbx.mono hb9.size)
      clear hbx hb9 CD
      have hns : (⟨#[78, 79, 80, 69]⟩ ++ ⟨D.toArray⟩ : ByteArray).size ≤ 9223372036854775807 := by
        have : (⟨#[78, 79, 80, 69]⟩ ++ ⟨D.toArray⟩ : ByteArray).size = 4 + D.length := by simp [ByteArray.size]; omega
        omega
      obtain ⟨NM, hNM⟩ : ∃ NM, (⟨#[78, 79, 80, 69]⟩ ++ ⟨D.toArray⟩ : ByteArray) = NM := ⟨_, rfl⟩
      rw [hNM] at CM hns
      go_wp2_with fail
      refine (MK.out _).mono ?_
      rintro e w11 ⟨rfl, hbx⟩
      have HV9 := Lib.hid (HV9.out.below hbx)
      have HW9 := Lib.hid (HW9.out.below hbx)
      have HT9 := Lib.hid (HT9.out.on hbx)
      have hb11 := hb10.trans (hbx.mono hb10.size)
      clear hbx hb10 MK
      go_wp2_with fail
      refine (lone_any _ 4 en ⟨#[]⟩).mono ?_
      rintro e w12 ⟨g, rfl, hbx, _⟩
      have HV9 := Lib.hid (HV9.out.below hbx)
      have HW9 := Lib.hid (HW9.out.below hbx)
      have HT9 := Lib.hid (HT9.out.on hbx)
      have hb12 := hb11.trans (hbx.mono hb11.size)
      clear hbx hb11
      go_wp2_with fail
      refine (CM.out _ _).mono ?_
      rintro e w13 ⟨rfl, hby⟩
      have hbx : Below w12.heap.size w12 w13 := ((Below.refl _ _).alloc (Nat.le_refl _) _).trans (hby.mono (by simp))
      have HV9 := Lib.hid (HV9.out.below hbx)
      have HW9 := Lib.hid (HW9.out.below hbx)
      have HT9 := Lib.hid (HT9.out.on hbx)
      have hb13 := hb12.trans (hbx.mono hb12.size)
      clear hbx hby hb12 CM
      have hbx : Below w13.heap.size w13 (w13.alloc (.cells #[.int .i64 4, .int .i64 5, .string ⟨#[]⟩] 31)) := (Below.refl _ _).alloc (Nat.le_refl _) _
      have hX := heap_alloc_new w13 (.cells #[.int .i64 4, .int .i64 5, .string ⟨#[]⟩] 31)
      have HV9 := Lib.hid (HV9.out.below hbx)
      have HW9 := Lib.hid (HW9.out.below hbx)
      have HT9 := Lib.hid (HT9.out.on hbx)
      have hb14 := hb13.trans (hbx.mono hb13.size)
      clear hbx hb13
      go_wp2_with fail
      obtain ⟨X, hXe⟩ : ∃ X, w13.heap.size = X := ⟨_, rfl⟩
      obtain ⟨w14, hw14⟩ : ∃ w14, w14 = w13.alloc (.cells #[.int .i64 4, .int .i64 5, .string ⟨#[]⟩] 31) := ⟨_, rfl⟩
      rw [hXe] at hX
      rw [← hw14] at hX HV9 HW9 HT9 hb14
      (try rw [hXe])
      (try rw [← hw14])
      have hs14 : w14.heap.size = X + 1 := by rw [hw14, World.size_alloc, hXe]
      clear hw14 hXe
      have hXl := (Array.getElem?_eq_some_iff.1 hX).1
      have hbx : Below w14.heap.size w14 (w14.alloc (.cells #[.bool true, .int .i64 1, .slice B l.length l.length] 27)) := (Below.refl _ _).alloc (Nat.le_refl _) _
      have hAA : AtA (w14.alloc (.cells #[.bool true, .int .i64 1, .slice B l.length l.length] 27)) (some ⟨w14.heap.size, 0, none⟩) [⟨true, 1, B, ivals l, l.length⟩] :=
        atA_lit (by simp) (heap_alloc_new w14 _) (by simp [argCells, ivals_len]) (fun a ha => by
          simp only [List.mem_cons, List.not_mem_nil, or_false] at ha
          subst ha
          exact HV9.out.below hbx)
      rw [hs14] at hAA
      refine (HG.out _ (.inl rfl) _ _ _ _ (HT9.out.on hbx) hAA).mono ?_
      rintro e w15 ⟨rfl, hby⟩
      have hbz := hbx.trans (hby.mono hbx.size)
      have HW9 := Lib.hid (HW9.out.below hbz)
      have HT9 := Lib.hid (HT9.out.on hbz)
      have hX := (hbz.block _ hXl).trans hX
      have hb15 := hb14.trans (hbz.mono hb14.size)
      clear hbx hby hbz hAA HV9 hXl hb14
      have hXl := (Array.getElem?_eq_some_iff.1 hX).1
      go_wp2_with fail
      obtain rfl := HM.out
      have hbx : Below w15.heap.size w15 (w15.alloc (.cells #[.bool true, .int .i64 1, .slice A9 (wl l l.length).length c9] 27)) := (Below.refl _ _).alloc (Nat.le_refl _) _
      have hAA : AtA (w15.alloc (.cells #[.bool true, .int .i64 1, .slice A9 (wl l l.length).length c9] 27)) (some ⟨w15.heap.size, 0, none⟩) [⟨true, 1, A9, wl l l.length, c9⟩] :=
        atA_lit (by simp) (heap_alloc_new w15 _) rfl (fun a ha => by
          simp only [List.mem_cons, List.not_mem_nil, or_false] at ha
          subst ha
          exact HW9.out.below hbx)
      refine (HG.out _ (.inr rfl) _ _ _ _ (HT9.out.on hbx) hAA).mono ?_
      rintro e w16 ⟨rfl, hby⟩
      have hbz := hbx.trans (hby.mono hbx.size)
      have hX := (hbz.block _ hXl).trans hX
      have hb16 := hb15.trans (hbz.mono hb15.size)
      clear hbx hby hbz hAA HW9 HT9 hXl hb15
      have sty := str_eq_true (rfl : rs = rs)
      obtain ⟨p0, p1, p2, _⟩ := val3 hX
      go_wp2_with fail
      refine (awake8 _).mono ?_
      rintro e w17 ⟨rfl, hby⟩
      have hb17 := hb16.trans (hby.mono hb16.size)
      clear hb16 hby hX p0 p1 p2
      go_wp2
      go_ret
      exact ⟨rfl, hb17⟩
  · go_wp2_with fail
    refine wp_region_tree [7, 11, 12] (.free 1 (.free 2 (.free 3 (.free 5 (.pure 8 (.pure 9 (.pure 10 (.alt 0 (.alt 4 (.eff 6 (.last 7 (.last 11 (.last 12 .nil)))) 6 (.eff 4 (.last 7 (.last 11 (.last 12 .nil))))) 6 (.eff 0 (.eff 4 (.last 7 (.last 11 (.last 12 .nil))))))))))))) (by kernel_rfl) (by kernel_rfl) (fun _ _ d _ _ h => by cases d <;> exact h) ?_
    obtain ⟨W0, hW0⟩ : ∃ W0, W0 = w1.drew := ⟨_, rfl⟩
    rw [← hW0]
    have hb3 : Below w.heap.size w W0 := hW0 ▸ below_drew hb2
    have hT3 : Tab W0 := hW0 ▸ (show Tab w1.drew from hT2)
    have hV0 : AtV W0 B (ivals l) := hW0 ▸ (show AtV w1.drew B (ivals l) from hV1)
    have hV4 : AtV W0 B (ivals (l.take k)) := by rw [← ivals_take]; exact hV0.take _
    have hV11 : AtV W0 (Option.map (fun x => x.add (k * 3)) B) (ivals (l.drop k)) := (by have := atV_cut hV0 (show l.length ≤ cap by omega) hkl; rw [if_neg hck] at this; exact this)
    have hbw : Below W0.heap.size W0 W0 := Below.refl _ _
    clear hW0 hb2 hT2 hV1
    obtain ⟨wv, hwv⟩ : ∃ wv, wv = W0 := ⟨_, rfl⟩
    have hbw : Below W0.heap.size W0 wv := hwv ▸ hbw
    rw [← hwv]
    clear hwv
    conv => arg 4; whnf
    conv => arg 4; arg 1; whnf
    refine pt_free (by rfl) (fun K hK => ?_)
    go_big_quiet_op
    first | (refine hK _ ?_; clear hK K) | (refine ⟨_, fun _ _ => rfl, hK _ ?_⟩; clear hK K)
    conv => arg 4; whnf
    conv => arg 4; arg 1; whnf
    refine pt_free (by rfl) (fun K hK => ?_)
    go_big_quiet_op
    first | (refine hK _ ?_; clear hK K) | (refine ⟨_, fun _ _ => rfl, hK _ ?_⟩; clear hK K)
    conv => arg 4; whnf
    conv => arg 4; arg 1; whnf
    refine pt_free (by rfl) (fun K hK => ?_)
    go_big_quiet_op
    first | (refine hK _ ?_; clear hK K) | (refine ⟨_, fun _ _ => rfl, hK _ ?_⟩; clear hK K)
    conv => arg 4; whnf
    conv => arg 4; arg 1; whnf
    refine pt_free (by rfl) (fun K hK => ?_)
    go_big_quiet_op
    first | (refine hK _ ?_; clear hK K) | (refine ⟨_, fun _ _ => rfl, hK _ ?_⟩; clear hK K)
    conv => arg 4; whnf
    conv => arg 4; arg 1; whnf
    refine pt_pure (by rfl) (fun K hK => ?_)
    go_big_quiet_op
    first | (refine hK _ ?_; clear hK K) | (refine ⟨_, fun _ _ => rfl, hK _ ?_⟩; clear hK K)
    conv => arg 4; whnf
    conv => arg 4; arg 1; whnf
    refine pt_pure (by rfl) (fun K hK => ?_)
    go_big_quiet_op
    first | (refine hK _ ?_; clear hK K) | (refine ⟨_, fun _ _ => rfl, hK _ ?_⟩; clear hK K)
    conv => arg 4; whnf
    conv => arg 4; arg 1; whnf
    refine pt_pure (by rfl) (fun K hK => ?_)
    go_big_quiet_op
    first | (refine hK _ ?_; clear hK K) | (refine ⟨_, fun _ _ => rfl, hK _ ?_⟩; clear hK K)
    conv => arg 4; whnf
    refine pt_alt ?_ ?_
    · conv => arg 4; whnf
      conv => arg 4; arg 1; whnf
      refine pt_eff (by rfl) (fun K hK => ?_)
      go_wp2
      refine hK _ _ (show Ext wv _ from (Below.refl _ _).alloc (Nat.le_refl _) _) ?_
      clear hK K
      have hE := heap_alloc_new wv (.cells #[] 31)
      have hGb := hbw.size
      have hbx : Below wv.heap.size wv (wv.alloc (.cells #[] 31)) := (Below.refl _ _).alloc (Nat.le_refl _) _
      have hbw := hbw.trans (hbx.mono hGb)
      clear hbx
      obtain ⟨G, hG⟩ : ∃ G, wv.heap.size = G := ⟨_, rfl⟩
      rw [hG] at hE hGb ⊢
      clear hG
      generalize wv.alloc (.cells #[] 31) = wv at *
      conv => arg 4; whnf
      refine pt_alt ?_ ?_
      · conv => arg 4; whnf
        conv => arg 4; arg 1; whnf
        refine pt_eff (by rfl) (fun K hK => ?_)
        refine wp_appVLit (base := W0.heap.size) eVal (by rfl) (by rfl) hE hGb (by rfl) (by rw [ivals_len]; (rw [List.length_take]; omega)) (hV4.below hbw) (by omega) (fun v1 w4 hown hbx => ?_)
        obtain ⟨A1, c1, rfl, _⟩ := own_form hown
        refine hK _ _ hbx ?_
        clear hK K hE hGb
        simp only [Act.put, List.setIfInBounds_toArray, List.set_cons_zero, List.set_cons_succ]
        have hbw := hbw.trans (hbx.mono hbw.size)
        clear hbx
        generalize w4 = wv at *
        conv => arg 4; whnf
        conv => arg 4; arg 1; whnf
        refine pt_eff (by rfl) (fun K hK => ?_)
        go_wp2
        refine hK _ _ (show Ext wv _ from (Below.refl _ _).alloc (Nat.le_refl _) _) ?_
        clear hK K
        have hbx : Below wv.heap.size wv (wv.alloc (.cells #[.int .i64 0, .int .i64 0, .string ⟨#[]⟩] 31)) := (Below.refl _ _).alloc (Nat.le_refl _) _
        have h6 : AtV (wv.alloc (.cells #[.int .i64 0, .int .i64 0, .string ⟨#[]⟩] 31)) (some ⟨wv.heap.size, 0, none⟩) [(0, 0, ⟨#[]⟩)] := atV_lit1 (heap_alloc_new wv _)
        have hown := own_below hown hbx
        have hbw := hbw.trans (hbx.mono hbw.size)
        clear hbx
        obtain ⟨S, hS⟩ : ∃ S, wv.heap.size = S := ⟨_, rfl⟩
        rw [hS] at h6 ⊢
        clear hS
        generalize wv.alloc (.cells #[.int .i64 0, .int .i64 0, .string ⟨#[]⟩] 31) = wv at *
        conv => arg 4; whnf
        conv => arg 4; arg 1; whnf
        refine pt_last (by rfl) (fun K hK => ?_)
        refine wp_appV (m := 1) (n := k) eVal (by rfl) hown (by rfl) (by rfl) rfl h6 (by omega) hbw.size (fun v2 w7 hown7 hg7 => ?_)
        obtain ⟨A7, c7, rfl, _⟩ := own_form hown7
        refine hK _ _ ?_
        clear hK K h6
        have hbw := below_grown hbw hown hg7 (Nat.le_refl _) hbw.size
        clear hown hg7
        simp only [Act.put, List.setIfInBounds_toArray, List.set_cons_zero, List.set_cons_succ]
        generalize w7 = wv at *
        conv => arg 4; whnf
        conv => arg 4; arg 1; whnf
        refine pt_last (by rfl) (fun K hK => ?_)
        refine wp_appV (m := (l.length - k)) (n := k + 1) eVal (by rfl) hown7 (by rfl) (by rfl) (by rw [ivals_len]; (rw [List.length_drop])) (hV11.below hbw) (by omega) hbw.size (fun v3 w9 hown9 hg9 => ?_)
        obtain ⟨A9, c9, rfl, _⟩ := own_form hown9
        refine hK _ _ ?_
        clear hK K
        have hbw := below_grown hbw hown7 hg9 (Nat.le_refl _) hbw.size
        clear hown7 hg9
        simp only [Act.put, List.setIfInBounds_toArray, List.set_cons_zero, List.set_cons_succ]
        conv => arg 4; whnf
        conv => arg 4; arg 1; whnf
        refine pt_last (by rfl) (fun K hK => ?_)
        go_wp2
        refine pt_nil ?_
        have hV9 := hV0.below hbw
        have hW9 : AtV w9 A9 (wl l k) := atV_of_own (n := k + 1 + (l.length - k)) (c := c9) (base := W0.heap.size) (by rw [cells3_wl]; exact hown9) (by rw [wl_len (by omega)]; omega)
        have hM : k + 1 + (l.length - k) = (wl l k).length := by rw [wl_len (by omega)]; all_goals (try omega)
        have hT9 := hT3.on hbw
        have hb9 : Below w.heap.size w w9 := hb3.trans (hbw.mono hb3.size)
        have HW9 := Lib.hid hW9
        have HV9 := Lib.hid hV9
        have HT9 := Lib.hid hT9
        obtain ⟨m, hm⟩ : ∃ m, k + 1 + (l.length - k) = m := ⟨_, rfl⟩
        (try rw [hm])
        rw [hm] at hM
        have HM := Lib.hid hM
        clear hM hm hown9 hW9 hV9 hT9 hV0 hV4 hV11 hbw hb3 hT3
        have hD9 : (Lib.itoa (ta : Int)).length ≤ 25 := by have := HTA.out; have := Lib.itoa_length_le (ta : Int) (by omega) (by omega); omega
        have CD := Lib.hid (fun W => rdig_pos W ta (by have := HTA.out; omega))
        obtain ⟨D, hD⟩ : ∃ D, Lib.itoa (ta : Int) = D := ⟨_, rfl⟩
        rw [hD] at CD hD9
        have hnm : (⟨#[78, 79, 80, 69]⟩ ++ ⟨D.toArray⟩ : ByteArray).data.toList = 78 :: 79 :: 80 :: 69 :: D := by simp [ByteArray.data_append]
        have hns : (⟨#[78, 79, 80, 69]⟩ ++ ⟨D.toArray⟩ : ByteArray).size ≤ maxLen := by
          have : (⟨#[78, 79, 80, 69]⟩ ++ ⟨D.toArray⟩ : ByteArray).size = 4 + D.length := by simp [ByteArray.size]; omega
          unfold maxLen
          omega
        have CM := Lib.hid (fun (W : World) (G : Nat) => call_miss W (some ⟨G, 0, none⟩) 1 1 (⟨#[78, 79, 80, 69]⟩ ++ ⟨D.toArray⟩) hns (by rw [hnm]; exact name_miss _ _ _ _))
        have MK := Lib.hid (show ∀ W : World, Calls Tryd.prog 13 #[.int .u8 4, .int .i64 e0, .string ⟨#[]⟩] W fun e w' => e = .returned (.agg #[.int .i64 4, .int .i64 (1 + (bits .and .i64 e0 1023) % 6), .string ⟨#[]⟩]) ∧ Below W.heap.size W w' from fun W => make_k4 W 4 e0 ⟨#[]⟩ rfl)
        obtain ⟨en, hen⟩ : ∃ en, 1 + (bits .and .i64 e0 1023) % 6 = en := ⟨_, rfl⟩
        rw [hen] at MK
        clear hD hnm hns hen
        go_wp2_with fail
        refine (CD.out _).mono ?_
        rintro e w10 ⟨rfl, hbx⟩
        have HV9 := Lib.hid (HV9.out.below hbx)
        have HW9 := Lib.hid (HW9.out.below hbx)
        have HT9 := Lib.hid (HT9.out.on hbx)
        have hb10 := hb9.trans (hbx.mono hb9.size)
        clear hbx hb9 CD
        have hns : (⟨#[78, 79, 80, 69]⟩ ++ ⟨D.toArray⟩ : ByteArray).size ≤ 9223372036854775807 := by
          have : (⟨#[78, 79, 80, 69]⟩ ++ ⟨D.toArray⟩ : ByteArray).size = 4 + D.length := by simp [ByteArray.size]; omega
          omega
        obtain ⟨NM, hNM⟩ : ∃ NM, (⟨#[78, 79, 80, 69]⟩ ++ ⟨D.toArray⟩ : ByteArray) = NM := ⟨_, rfl⟩
        rw [hNM] at CM hns
        go_wp2_with fail
        refine (MK.out _).mono ?_
        rintro e w11 ⟨rfl, hbx⟩
        have HV9 := Lib.hid (HV9.out.below hbx)
        have HW9 := Lib.hid (HW9.out.below hbx)
        have HT9 := Lib.hid (HT9.out.on hbx)
        have hb11 := hb10.trans (hbx.mono hb10.size)
        clear hbx hb10 MK
        go_wp2_with fail
        refine (lone_any _ 4 en ⟨#[]⟩).mono ?_
        rintro e w12 ⟨g, rfl, hbx, _⟩
        have HV9 := Lib.hid (HV9.out.below hbx)
        have HW9 := Lib.hid (HW9.out.below hbx)
        have HT9 := Lib.hid (HT9.out.on hbx)
        have hb12 := hb11.trans (hbx.mono hb11.size)
        clear hbx hb11
        go_wp2_with fail
        refine (CM.out _ _).mono ?_
        rintro e w13 ⟨rfl, hby⟩
        have hbx : Below w12.heap.size w12 w13 := ((Below.refl _ _).alloc (Nat.le_refl _) _).trans (hby.mono (by simp))
        have HV9 := Lib.hid (HV9.out.below hbx)
        have HW9 := Lib.hid (HW9.out.below hbx)
        have HT9 := Lib.hid (HT9.out.on hbx)
        have hb13 := hb12.trans (hbx.mono hb12.size)
        clear hbx hby hb12 CM
        have hbx : Below w13.heap.size w13 (w13.alloc (.cells #[.int .i64 4, .int .i64 5, .string ⟨#[]⟩] 31)) := (Below.refl _ _).alloc (Nat.le_refl _) _
        have hX := heap_alloc_new w13 (.cells #[.int .i64 4, .int .i64 5, .string ⟨#[]⟩] 31)
        have HV9 := Lib.hid (HV9.out.below hbx)
        have HW9 := Lib.hid (HW9.out.below hbx)
        have HT9 := Lib.hid (HT9.out.on hbx)
        have hb14 := hb13.trans (hbx.mono hb13.size)
        clear hbx hb13
        go_wp2_with fail
        obtain ⟨X, hXe⟩ : ∃ X, w13.heap.size = X := ⟨_, rfl⟩
        obtain ⟨w14, hw14⟩ : ∃ w14, w14 = w13.alloc (.cells #[.int .i64 4, .int .i64 5, .string ⟨#[]⟩] 31) := ⟨_, rfl⟩
        rw [hXe] at hX
        rw [← hw14] at hX HV9 HW9 HT9 hb14
        (try rw [hXe])
        (try rw [← hw14])
        have hs14 : w14.heap.size = X + 1 := by rw [hw14, World.size_alloc, hXe]
        clear hw14 hXe
        have hXl := (Array.getElem?_eq_some_iff.1 hX).1
        have hbx : Below w14.heap.size w14 (w14.alloc (.cells #[.bool true, .int .i64 1, .slice B l.length cap] 27)) := (Below.refl _ _).alloc (Nat.le_refl _) _
        have hAA : AtA (w14.alloc (.cells #[.bool true, .int .i64 1, .slice B l.length cap] 27)) (some ⟨w14.heap.size, 0, none⟩) [⟨true, 1, B, ivals l, cap⟩] :=
          atA_lit (by simp) (heap_alloc_new w14 _) (by simp [argCells, ivals_len]) (fun a ha => by
            simp only [List.mem_cons, List.not_mem_nil, or_false] at ha
            subst ha
            exact HV9.out.below hbx)
        rw [hs14] at hAA
        refine (HG.out _ (.inl rfl) _ _ _ _ (HT9.out.on hbx) hAA).mono ?_
        rintro e w15 ⟨rfl, hby⟩
        have hbz := hbx.trans (hby.mono hbx.size)
        have HW9 := Lib.hid (HW9.out.below hbz)
        have HT9 := Lib.hid (HT9.out.on hbz)
        have hX := (hbz.block _ hXl).trans hX
        have hb15 := hb14.trans (hbz.mono hb14.size)
        clear hbx hby hbz hAA HV9 hXl hb14
        have hXl := (Array.getElem?_eq_some_iff.1 hX).1
        go_wp2_with fail
        obtain rfl := HM.out
        have hbx : Below w15.heap.size w15 (w15.alloc (.cells #[.bool true, .int .i64 1, .slice A9 (wl l k).length c9] 27)) := (Below.refl _ _).alloc (Nat.le_refl _) _
        have hAA : AtA (w15.alloc (.cells #[.bool true, .int .i64 1, .slice A9 (wl l k).length c9] 27)) (some ⟨w15.heap.size, 0, none⟩) [⟨true, 1, A9, wl l k, c9⟩] :=
          atA_lit (by simp) (heap_alloc_new w15 _) rfl (fun a ha => by
            simp only [List.mem_cons, List.not_mem_nil, or_false] at ha
            subst ha
            exact HW9.out.below hbx)
        refine (HG.out _ (.inr rfl) _ _ _ _ (HT9.out.on hbx) hAA).mono ?_
        rintro e w16 ⟨rfl, hby⟩
        have hbz := hbx.trans (hby.mono hbx.size)
        have hX := (hbz.block _ hXl).trans hX
        have hb16 := hb15.trans (hbz.mono hb15.size)
        clear hbx hby hbz hAA HW9 HT9 hXl hb15
        have sty := str_eq_true (rfl : rs = rs)
        obtain ⟨p0, p1, p2, _⟩ := val3 hX
        go_wp2_with fail
        refine (awake8 _).mono ?_
        rintro e w17 ⟨rfl, hby⟩
        have hb17 := hb16.trans (hby.mono hb16.size)
        clear hb16 hby hX p0 p1 p2
        go_wp2
        go_ret
        exact ⟨rfl, hb17⟩
      · conv => arg 4; whnf
        conv => arg 4; arg 1; whnf
        refine pt_eff (by rfl) (fun K hK => ?_)
        go_wp2
        refine hK _ _ (show Ext wv _ from (Below.refl _ _).alloc (Nat.le_refl _) _) ?_
        clear hK K
        have hbx : Below wv.heap.size wv (wv.alloc (.cells #[.int .i64 0, .int .i64 0, .string ⟨#[]⟩] 31)) := (Below.refl _ _).alloc (Nat.le_refl _) _
        have h6 : AtV (wv.alloc (.cells #[.int .i64 0, .int .i64 0, .string ⟨#[]⟩] 31)) (some ⟨wv.heap.size, 0, none⟩) [(0, 0, ⟨#[]⟩)] := atV_lit1 (heap_alloc_new wv _)
        have hE := (hbx.block _ (Array.getElem?_eq_some_iff.1 hE).1).trans hE
        have hbw := hbw.trans (hbx.mono hbw.size)
        clear hbx
        obtain ⟨S, hS⟩ : ∃ S, wv.heap.size = S := ⟨_, rfl⟩
        rw [hS] at h6 ⊢
        clear hS
        generalize wv.alloc (.cells #[.int .i64 0, .int .i64 0, .string ⟨#[]⟩] 31) = wv at *
        conv => arg 4; whnf
        conv => arg 4; arg 1; whnf
        refine pt_eff (by rfl) (fun K hK => ?_)
        refine wp_appVLit (base := W0.heap.size) eVal (by rfl) (by rfl) hE hGb (by rfl) (by rw [ivals_len]; (rw [List.length_take]; omega)) (hV4.below hbw) (by omega) (fun v1 w4 hown hbx => ?_)
        obtain ⟨A1, c1, rfl, _⟩ := own_form hown
        refine hK _ _ hbx ?_
        clear hK K hE hGb
        simp only [Act.put, List.setIfInBounds_toArray, List.set_cons_zero, List.set_cons_succ]
        have hbw := hbw.trans (hbx.mono hbw.size)
        have h6 := h6.below hbx
        clear hbx
        generalize w4 = wv at *
        conv => arg 4; whnf
        conv => arg 4; arg 1; whnf
        refine pt_last (by rfl) (fun K hK => ?_)
        refine wp_appV (m := 1) (n := k) eVal (by rfl) hown (by rfl) (by rfl) rfl h6 (by omega) hbw.size (fun v2 w7 hown7 hg7 => ?_)
        obtain ⟨A7, c7, rfl, _⟩ := own_form hown7
        refine hK _ _ ?_
        clear hK K h6
        have hbw := below_grown hbw hown hg7 (Nat.le_refl _) hbw.size
        clear hown hg7
        simp only [Act.put, List.setIfInBounds_toArray, List.set_cons_zero, List.set_cons_succ]
        generalize w7 = wv at *
        conv => arg 4; whnf
        conv => arg 4; arg 1; whnf
        refine pt_last (by rfl) (fun K hK => ?_)
        refine wp_appV (m := (l.length - k)) (n := k + 1) eVal (by rfl) hown7 (by rfl) (by rfl) (by rw [ivals_len]; (rw [List.length_drop])) (hV11.below hbw) (by omega) hbw.size (fun v3 w9 hown9 hg9 => ?_)
        obtain ⟨A9, c9, rfl, _⟩ := own_form hown9
        refine hK _ _ ?_
        clear hK K
        have hbw := below_grown hbw hown7 hg9 (Nat.le_refl _) hbw.size
        clear hown7 hg9
        simp only [Act.put, List.setIfInBounds_toArray, List.set_cons_zero, List.set_cons_succ]
        conv => arg 4; whnf
        conv => arg 4; arg 1; whnf
        refine pt_last (by rfl) (fun K hK => ?_)
        go_wp2
        refine pt_nil ?_
        have hV9 := hV0.below hbw
        have hW9 : AtV w9 A9 (wl l k) := atV_of_own (n := k + 1 + (l.length - k)) (c := c9) (base := W0.heap.size) (by rw [cells3_wl]; exact hown9) (by rw [wl_len (by omega)]; omega)
        have hM : k + 1 + (l.length - k) = (wl l k).length := by rw [wl_len (by omega)]; all_goals (try omega)
        have hT9 := hT3.on hbw
        have hb9 : Below w.heap.size w w9 := hb3.trans (hbw.mono hb3.size)
        have HW9 := Lib.hid hW9
        have HV9 := Lib.hid hV9
        have HT9 := Lib.hid hT9
        obtain ⟨m, hm⟩ : ∃ m, k + 1 + (l.length - k) = m := ⟨_, rfl⟩
        (try rw [hm])
        rw [hm] at hM
        have HM := Lib.hid hM
        clear hM hm hown9 hW9 hV9 hT9 hV0 hV4 hV11 hbw hb3 hT3
        have hD9 : (Lib.itoa (ta : Int)).length ≤ 25 := by have := HTA.out; have := Lib.itoa_length_le (ta : Int) (by omega) (by omega); omega
        have CD := Lib.hid (fun W => rdig_pos W ta (by have := HTA.out; omega))
        obtain ⟨D, hD⟩ : ∃ D, Lib.itoa (ta : Int) = D := ⟨_, rfl⟩
        rw [hD] at CD hD9
        have hnm : (⟨#[78, 79, 80, 69]⟩ ++ ⟨D.toArray⟩ : ByteArray).data.toList = 78 :: 79 :: 80 :: 69 :: D := by simp [ByteArray.data_append]
        have hns : (⟨#[78, 79, 80, 69]⟩ ++ ⟨D.toArray⟩ : ByteArray).size ≤ maxLen := by
          have : (⟨#[78, 79, 80, 69]⟩ ++ ⟨D.toArray⟩ : ByteArray).size = 4 + D.length := by simp [ByteArray.size]; omega
          unfold maxLen
          omega
        have CM := Lib.hid (fun (W : World) (G : Nat) => call_miss W (some ⟨G, 0, none⟩) 1 1 (⟨#[78, 79, 80, 69]⟩ ++ ⟨D.toArray⟩) hns (by rw [hnm]; exact name_miss _ _ _ _))
        have MK := Lib.hid (show ∀ W : World, Calls Tryd.prog 13 #[.int .u8 4, .int .i64 e0, .string ⟨#[]⟩] W fun e w' => e = .returned (.agg #[.int .i64 4, .int .i64 (1 + (bits .and .i64 e0 1023) % 6), .string ⟨#[]⟩]) ∧ Below W.heap.size W w' from fun W => make_k4 W 4 e0 ⟨#[]⟩ rfl)
        obtain ⟨en, hen⟩ : ∃ en, 1 + (bits .and .i64 e0 1023) % 6 = en := ⟨_, rfl⟩
        rw [hen] at MK
        clear hD hnm hns hen
        go_wp2_with fail
        refine (CD.out _).mono ?_
        rintro e w10 ⟨rfl, hbx⟩
        have HV9 := Lib.hid (HV9.out.below hbx)
        have HW9 := Lib.hid (HW9.out.below hbx)
        have HT9 := Lib.hid (HT9.out.on hbx)
        have hb10 := hb9.trans (hbx.mono hb9.size)
        clear hbx hb9 CD
        have hns : (⟨#[78, 79, 80, 69]⟩ ++ ⟨D.toArray⟩ : ByteArray).size ≤ 9223372036854775807 := by
          have : (⟨#[78, 79, 80, 69]⟩ ++ ⟨D.toArray⟩ : ByteArray).size = 4 + D.length := by simp [ByteArray.size]; omega
          omega
        obtain ⟨NM, hNM⟩ : ∃ NM, (⟨#[78, 79, 80, 69]⟩ ++ ⟨D.toArray⟩ : ByteArray) = NM := ⟨_, rfl⟩
        rw [hNM] at CM hns
        go_wp2_with fail
        refine (MK.out _).mono ?_
        rintro e w11 ⟨rfl, hbx⟩
        have HV9 := Lib.hid (HV9.out.below hbx)
        have HW9 := Lib.hid (HW9.out.below hbx)
        have HT9 := Lib.hid (HT9.out.on hbx)
        have hb11 := hb10.trans (hbx.mono hb10.size)
        clear hbx hb10 MK
        go_wp2_with fail
        refine (lone_any _ 4 en ⟨#[]⟩).mono ?_
        rintro e w12 ⟨g, rfl, hbx, _⟩
        have HV9 := Lib.hid (HV9.out.below hbx)
        have HW9 := Lib.hid (HW9.out.below hbx)
        have HT9 := Lib.hid (HT9.out.on hbx)
        have hb12 := hb11.trans (hbx.mono hb11.size)
        clear hbx hb11
        go_wp2_with fail
        refine (CM.out _ _).mono ?_
        rintro e w13 ⟨rfl, hby⟩
        have hbx : Below w12.heap.size w12 w13 := ((Below.refl _ _).alloc (Nat.le_refl _) _).trans (hby.mono (by simp))
        have HV9 := Lib.hid (HV9.out.below hbx)
        have HW9 := Lib.hid (HW9.out.below hbx)
        have HT9 := Lib.hid (HT9.out.on hbx)
        have hb13 := hb12.trans (hbx.mono hb12.size)
        clear hbx hby hb12 CM
        have hbx : Below w13.heap.size w13 (w13.alloc (.cells #[.int .i64 4, .int .i64 5, .string ⟨#[]⟩] 31)) := (Below.refl _ _).alloc (Nat.le_refl _) _
        have hX := heap_alloc_new w13 (.cells #[.int .i64 4, .int .i64 5, .string ⟨#[]⟩] 31)
        have HV9 := Lib.hid (HV9.out.below hbx)
        have HW9 := Lib.hid (HW9.out.below hbx)
        have HT9 := Lib.hid (HT9.out.on hbx)
        have hb14 := hb13.trans (hbx.mono hb13.size)
        clear hbx hb13
        go_wp2_with fail
        obtain ⟨X, hXe⟩ : ∃ X, w13.heap.size = X := ⟨_, rfl⟩
        obtain ⟨w14, hw14⟩ : ∃ w14, w14 = w13.alloc (.cells #[.int .i64 4, .int .i64 5, .string ⟨#[]⟩] 31) := ⟨_, rfl⟩
        rw [hXe] at hX
        rw [← hw14] at hX HV9 HW9 HT9 hb14
        (try rw [hXe])
        (try rw [← hw14])
        have hs14 : w14.heap.size = X + 1 := by rw [hw14, World.size_alloc, hXe]
        clear hw14 hXe
        have hXl := (Array.getElem?_eq_some_iff.1 hX).1
        have hbx : Below w14.heap.size w14 (w14.alloc (.cells #[.bool true, .int .i64 1, .slice B l.length cap] 27)) := (Below.refl _ _).alloc (Nat.le_refl _) _
        have hAA : AtA (w14.alloc (.cells #[.bool true, .int .i64 1, .slice B l.length cap] 27)) (some ⟨w14.heap.size, 0, none⟩) [⟨true, 1, B, ivals l, cap⟩] :=
          atA_lit (by simp) (heap_alloc_new w14 _) (by simp [argCells, ivals_len]) (fun a ha => by
            simp only [List.mem_cons, List.not_mem_nil, or_false] at ha
            subst ha
            exact HV9.out.below hbx)
        rw [hs14] at hAA
        refine (HG.out _ (.inl rfl) _ _ _ _ (HT9.out.on hbx) hAA).mono ?_
        rintro e w15 ⟨rfl, hby⟩
        have hbz := hbx.trans (hby.mono hbx.size)
        have HW9 := Lib.hid (HW9.out.below hbz)
        have HT9 := Lib.hid (HT9.out.on hbz)
        have hX := (hbz.block _ hXl).trans hX
        have hb15 := hb14.trans (hbz.mono hb14.size)
        clear hbx hby hbz hAA HV9 hXl hb14
        have hXl := (Array.getElem?_eq_some_iff.1 hX).1
        go_wp2_with fail
        obtain rfl := HM.out
        have hbx : Below w15.heap.size w15 (w15.alloc (.cells #[.bool true, .int .i64 1, .slice A9 (wl l k).length c9] 27)) := (Below.refl _ _).alloc (Nat.le_refl _) _
        have hAA : AtA (w15.alloc (.cells #[.bool true, .int .i64 1, .slice A9 (wl l k).length c9] 27)) (some ⟨w15.heap.size, 0, none⟩) [⟨true, 1, A9, wl l k, c9⟩] :=
          atA_lit (by simp) (heap_alloc_new w15 _) rfl (fun a ha => by
            simp only [List.mem_cons, List.not_mem_nil, or_false] at ha
            subst ha
            exact HW9.out.below hbx)
        refine (HG.out _ (.inr rfl) _ _ _ _ (HT9.out.on hbx) hAA).mono ?_
        rintro e w16 ⟨rfl, hby⟩
        have hbz := hbx.trans (hby.mono hbx.size)
        have hX := (hbz.block _ hXl).trans hX
        have hb16 := hb15.trans (hbz.mono hb15.size)
        clear hbx hby hbz hAA HW9 HT9 hXl hb15
        have sty := str_eq_true (rfl : rs = rs)
        obtain ⟨p0, p1, p2, _⟩ := val3 hX
        go_wp2_with fail
        refine (awake8 _).mono ?_
        rintro e w17 ⟨rfl, hby⟩
        have hb17 := hb16.trans (hby.mono hb16.size)
        clear hb16 hby hX p0 p1 p2
        go_wp2
        go_ret
        exact ⟨rfl, hb17⟩
    · conv => arg 4; whnf
      conv => arg 4; arg 1; whnf
      refine pt_eff (by rfl) (fun K hK => ?_)
      go_wp2
      refine hK _ _ (show Ext wv _ from (Below.refl _ _).alloc (Nat.le_refl _) _) ?_
      clear hK K
      have hbx : Below wv.heap.size wv (wv.alloc (.cells #[.int .i64 0, .int .i64 0, .string ⟨#[]⟩] 31)) := (Below.refl _ _).alloc (Nat.le_refl _) _
      have h6 : AtV (wv.alloc (.cells #[.int .i64 0, .int .i64 0, .string ⟨#[]⟩] 31)) (some ⟨wv.heap.size, 0, none⟩) [(0, 0, ⟨#[]⟩)] := atV_lit1 (heap_alloc_new wv _)
      have hbw := hbw.trans (hbx.mono hbw.size)
      clear hbx
      obtain ⟨S, hS⟩ : ∃ S, wv.heap.size = S := ⟨_, rfl⟩
      rw [hS] at h6 ⊢
      clear hS
      generalize wv.alloc (.cells #[.int .i64 0, .int .i64 0, .string ⟨#[]⟩] 31) = wv at *
      conv => arg 4; whnf
      conv => arg 4; arg 1; whnf
      refine pt_eff (by rfl) (fun K hK => ?_)
      go_wp2
      refine hK _ _ (show Ext wv _ from (Below.refl _ _).alloc (Nat.le_refl _) _) ?_
      clear hK K
      have hE := heap_alloc_new wv (.cells #[] 31)
      have hGb := hbw.size
      have hbx : Below wv.heap.size wv (wv.alloc (.cells #[] 31)) := (Below.refl _ _).alloc (Nat.le_refl _) _
      have hbw := hbw.trans (hbx.mono hGb)
      have h6 := h6.below hbx
      clear hbx
      obtain ⟨G, hG⟩ : ∃ G, wv.heap.size = G := ⟨_, rfl⟩
      rw [hG] at hE hGb ⊢
      clear hG
      generalize wv.alloc (.cells #[] 31) = wv at *
      conv => arg 4; whnf
      conv => arg 4; arg 1; whnf
      refine pt_eff (by rfl) (fun K hK => ?_)
      refine wp_appVLit (base := W0.heap.size) eVal (by rfl) (by rfl) hE hGb (by rfl) (by rw [ivals_len]; (rw [List.length_take]; omega)) (hV4.below hbw) (by omega) (fun v1 w4 hown hbx => ?_)
      obtain ⟨A1, c1, rfl, _⟩ := own_form hown
      refine hK _ _ hbx ?_
      clear hK K hE hGb
      simp only [Act.put, List.setIfInBounds_toArray, List.set_cons_zero, List.set_cons_succ]
      have hbw := hbw.trans (hbx.mono hbw.size)
      have h6 := h6.below hbx
      clear hbx
      generalize w4 = wv at *
      conv => arg 4; whnf
      conv => arg 4; arg 1; whnf
      refine pt_last (by rfl) (fun K hK => ?_)
      refine wp_appV (m := 1) (n := k) eVal (by rfl) hown (by rfl) (by rfl) rfl h6 (by omega) hbw.size (fun v2 w7 hown7 hg7 => ?_)
      obtain ⟨A7, c7, rfl, _⟩ := own_form hown7
      refine hK _ _ ?_
      clear hK K h6
      have hbw := below_grown hbw hown hg7 (Nat.le_refl _) hbw.size
      clear hown hg7
      simp only [Act.put, List.setIfInBounds_toArray, List.set_cons_zero, List.set_cons_succ]
      generalize w7 = wv at *
      conv => arg 4; whnf
      conv => arg 4; arg 1; whnf
      refine pt_last (by rfl) (fun K hK => ?_)
      refine wp_appV (m := (l.length - k)) (n := k + 1) eVal (by rfl) hown7 (by rfl) (by rfl) (by rw [ivals_len]; (rw [List.length_drop])) (hV11.below hbw) (by omega) hbw.size (fun v3 w9 hown9 hg9 => ?_)
      obtain ⟨A9, c9, rfl, _⟩ := own_form hown9
      refine hK _ _ ?_
      clear hK K
      have hbw := below_grown hbw hown7 hg9 (Nat.le_refl _) hbw.size
      clear hown7 hg9
      simp only [Act.put, List.setIfInBounds_toArray, List.set_cons_zero, List.set_cons_succ]
      conv => arg 4; whnf
      conv => arg 4; arg 1; whnf
      refine pt_last (by rfl) (fun K hK => ?_)
      go_wp2
      refine pt_nil ?_
      have hV9 := hV0.below hbw
      have hW9 : AtV w9 A9 (wl l k) := atV_of_own (n := k + 1 + (l.length - k)) (c := c9) (base := W0.heap.size) (by rw [cells3_wl]; exact hown9) (by rw [wl_len (by omega)]; omega)
      have hM : k + 1 + (l.length - k) = (wl l k).length := by rw [wl_len (by omega)]; all_goals (try omega)
      have hT9 := hT3.on hbw
      have hb9 : Below w.heap.size w w9 := hb3.trans (hbw.mono hb3.size)
      have HW9 := Lib.hid hW9
      have HV9 := Lib.hid hV9
      have HT9 := Lib.hid hT9
      obtain ⟨m, hm⟩ : ∃ m, k + 1 + (l.length - k) = m := ⟨_, rfl⟩
      (try rw [hm])
      rw [hm] at hM
      have HM := Lib.hid hM
      clear hM hm hown9 hW9 hV9 hT9 hV0 hV4 hV11 hbw hb3 hT3
      have hD9 : (Lib.itoa (ta : Int)).length ≤ 25 := by have := HTA.out; have := Lib.itoa_length_le (ta : Int) (by omega) (by omega); omega
      have CD := Lib.hid (fun W => rdig_pos W ta (by have := HTA.out; omega))
      obtain ⟨D, hD⟩ : ∃ D, Lib.itoa (ta : Int) = D := ⟨_, rfl⟩
      rw [hD] at CD hD9
      have hnm : (⟨#[78, 79, 80, 69]⟩ ++ ⟨D.toArray⟩ : ByteArray).data.toList = 78 :: 79 :: 80 :: 69 :: D := by simp [ByteArray.data_append]
      have hns : (⟨#[78, 79, 80, 69]⟩ ++ ⟨D.toArray⟩ : ByteArray).size ≤ maxLen := by
        have : (⟨#[78, 79, 80, 69]⟩ ++ ⟨D.toArray⟩ : ByteArray).size = 4 + D.length := by simp [ByteArray.size]; omega
        unfold maxLen
        omega
      have CM := Lib.hid (fun (W : World) (G : Nat) => call_miss W (some ⟨G, 0, none⟩) 1 1 (⟨#[78, 79, 80, 69]⟩ ++ ⟨D.toArray⟩) hns (by rw [hnm]; exact name_miss _ _ _ _))
      have MK := Lib.hid (show ∀ W : World, Calls Tryd.prog 13 #[.int .u8 4, .int .i64 e0, .string ⟨#[]⟩] W fun e w' => e = .returned (.agg #[.int .i64 4, .int .i64 (1 + (bits .and .i64 e0 1023) % 6), .string ⟨#[]⟩]) ∧ Below W.heap.size W w' from fun W => make_k4 W 4 e0 ⟨#[]⟩ rfl)
      obtain ⟨en, hen⟩ : ∃ en, 1 + (bits .and .i64 e0 1023) % 6 = en := ⟨_, rfl⟩
      rw [hen] at MK
      clear hD hnm hns hen
      go_wp2_with fail
      refine (CD.out _).mono ?_
      rintro e w10 ⟨rfl, hbx⟩
      have HV9 := Lib.hid (HV9.out.below hbx)
      have HW9 := Lib.hid (HW9.out.below hbx)
      have HT9 := Lib.hid (HT9.out.on hbx)
      have hb10 := hb9.trans (hbx.mono hb9.size)
      clear hbx hb9 CD
      have hns : (⟨#[78, 79, 80, 69]⟩ ++ ⟨D.toArray⟩ : ByteArray).size ≤ 9223372036854775807 := by
        have : (⟨#[78, 79, 80, 69]⟩ ++ ⟨D.toArray⟩ : ByteArray).size = 4 + D.length := by simp [ByteArray.size]; omega
        omega
      obtain ⟨NM, hNM⟩ : ∃ NM, (⟨#[78, 79, 80, 69]⟩ ++ ⟨D.toArray⟩ : ByteArray) = NM := ⟨_, rfl⟩
      rw [hNM] at CM hns
      go_wp2_with fail
      refine (MK.out _).mono ?_
      rintro e w11 ⟨rfl, hbx⟩
      have HV9 := Lib.hid (HV9.out.below hbx)
      have HW9 := Lib.hid (HW9.out.below hbx)
      have HT9 := Lib.hid (HT9.out.on hbx)
      have hb11 := hb10.trans (hbx.mono hb10.size)
      clear hbx hb10 MK
      go_wp2_with fail
      refine (lone_any _ 4 en ⟨#[]⟩).mono ?_
      rintro e w12 ⟨g, rfl, hbx, _⟩
      have HV9 := Lib.hid (HV9.out.below hbx)
      have HW9 := Lib.hid (HW9.out.below hbx)
      have HT9 := Lib.hid (HT9.out.on hbx)
      have hb12 := hb11.trans (hbx.mono hb11.size)
      clear hbx hb11
      go_wp2_with fail
      refine (CM.out _ _).mono ?_
      rintro e w13 ⟨rfl, hby⟩
      have hbx : Below w12.heap.size w12 w13 := ((Below.refl _ _).alloc (Nat.le_refl _) _).trans (hby.mono (by simp))
      have HV9 := Lib.hid (HV9.out.below hbx)
      have HW9 := Lib.hid (HW9.out.below hbx)
      have HT9 := Lib.hid (HT9.out.on hbx)
      have hb13 := hb12.trans (hbx.mono hb12.size)
      clear hbx hby hb12 CM
      have hbx : Below w13.heap.size w13 (w13.alloc (.cells #[.int .i64 4, .int .i64 5, .string ⟨#[]⟩] 31)) := (Below.refl _ _).alloc (Nat.le_refl _) _
      have hX := heap_alloc_new w13 (.cells #[.int .i64 4, .int .i64 5, .string ⟨#[]⟩] 31)
      have HV9 := Lib.hid (HV9.out.below hbx)
      have HW9 := Lib.hid (HW9.out.below hbx)
      have HT9 := Lib.hid (HT9.out.on hbx)
      have hb14 := hb13.trans (hbx.mono hb13.size)
      clear hbx hb13
      go_wp2_with fail
      obtain ⟨X, hXe⟩ : ∃ X, w13.heap.size = X := ⟨_, rfl⟩
      obtain ⟨w14, hw14⟩ : ∃ w14, w14 = w13.alloc (.cells #[.int .i64 4, .int .i64 5, .string ⟨#[]⟩] 31) := ⟨_, rfl⟩
      rw [hXe] at hX
      rw [← hw14] at hX HV9 HW9 HT9 hb14
      (try rw [hXe])
      (try rw [← hw14])
      have hs14 : w14.heap.size = X + 1 := by rw [hw14, World.size_alloc, hXe]
      clear hw14 hXe
      have hXl := (Array.getElem?_eq_some_iff.1 hX).1
      have hbx : Below w14.heap.size w14 (w14.alloc (.cells #[.bool true, .int .i64 1, .slice B l.length cap] 27)) := (Below.refl _ _).alloc (Nat.le_refl _) _
      have hAA : AtA (w14.alloc (.cells #[.bool true, .int .i64 1, .slice B l.length cap] 27)) (some ⟨w14.heap.size, 0, none⟩) [⟨true, 1, B, ivals l, cap⟩] :=
        atA_lit (by simp) (heap_alloc_new w14 _) (by simp [argCells, ivals_len]) (fun a ha => by
          simp only [List.mem_cons, List.not_mem_nil, or_false] at ha
          subst ha
          exact HV9.out.below hbx)
      rw [hs14] at hAA
      refine (HG.out _ (.inl rfl) _ _ _ _ (HT9.out.on hbx) hAA).mono ?_
      rintro e w15 ⟨rfl, hby⟩
      have hbz := hbx.trans (hby.mono hbx.size)
      have HW9 := Lib.hid (HW9.out.below hbz)
      have HT9 := Lib.hid (HT9.out.on hbz)
      have hX := (hbz.block _ hXl).trans hX
      have hb15 := hb14.trans (hbz.mono hb14.size)
      clear hbx hby hbz hAA HV9 hXl hb14
      have hXl := (Array.getElem?_eq_some_iff.1 hX).1
      go_wp2_with fail
      obtain rfl := HM.out
      have hbx : Below w15.heap.size w15 (w15.alloc (.cells #[.bool true, .int .i64 1, .slice A9 (wl l k).length c9] 27)) := (Below.refl _ _).alloc (Nat.le_refl _) _
      have hAA : AtA (w15.alloc (.cells #[.bool true, .int .i64 1, .slice A9 (wl l k).length c9] 27)) (some ⟨w15.heap.size, 0, none⟩) [⟨true, 1, A9, wl l k, c9⟩] :=
        atA_lit (by simp) (heap_alloc_new w15 _) rfl (fun a ha => by
          simp only [List.mem_cons, List.not_mem_nil, or_false] at ha
          subst ha
          exact HW9.out.below hbx)
      refine (HG.out _ (.inr rfl) _ _ _ _ (HT9.out.on hbx) hAA).mono ?_
      rintro e w16 ⟨rfl, hby⟩
      have hbz := hbx.trans (hby.mono hbx.size)
      have hX := (hbz.block _ hXl).trans hX
      have hb16 := hb15.trans (hbz.mono hb15.size)
      clear hbx hby hbz hAA HW9 HT9 hXl hb15
      have sty := str_eq_true (rfl : rs = rs)
      obtain ⟨p0, p1, p2, _⟩ := val3 hX
      go_wp2_with fail
      refine (awake8 _).mono ?_
      rintro e w17 ⟨rfl, hby⟩
      have hb17 := hb16.trans (hby.mono hb16.size)
      clear hb16 hby hX p0 p1 p2
      go_wp2
      go_ret
      exact ⟨rfl, hb17⟩
end Go.Proofs.YtcbaioagcemmnaaDoor
