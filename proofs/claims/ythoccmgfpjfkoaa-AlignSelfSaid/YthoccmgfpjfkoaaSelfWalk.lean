/- The walk of AlignSelf. Written by selfgen.py. -/
import Derived.Test.YthoccmgfpjfkoaaBook
import Derived.Test.YthoccmgfpjfkoaaCellsWalk
import Derived.Test.YthoccmgfpjfkoaaPlanB
namespace Go.Proofs.Ythoccmgfpjfkoaa
open Go.RowKit

/-- 'append(s, xs...)' as one operation -/
theorem wp_appAll {P : Program} {T e : TypeId} {z : Value} {bytes : Nat} {o : Oper} {a : Act} {K : Act → World → Prop} {Q : Exit → Act → World → Prop} {w0 : World} {s x : Operand} {v : Value} {n base : Nat} {xs : List Value} {α : Type} {f : α → Value} {A : Option Addr} {c m : Nat} {l : List α}
    (E : EInfo P T e z 1 bytes) (ho : o.op = .call { callee := .builtin .append, args := #[s, x], argTypes := #[T, T] }) (hown : w0.ownsRow base e 1 v n xs) (hs : a.eval s = v)
    (hx : a.eval x = .slice A m c) (hm : m = l.length) (hl : At1 f w0 A l) (h1 : ∀ y, (f y).oneCell' = true) (hbytes : (n + l.length) * bytes ≤ 140737488355328) (hbase : base ≤ w0.heap.size)
    (h : ∀ v' w', w'.ownsRow base e 1 v' (n + l.length) (xs ++ l.map f) → w0.grownBy w' v.ownBlock → K (a.put o.dst v') w') :
    o.wp P a w0 K Q := by
  obtain ⟨ht, hinfo, hzs, hsz, hby0⟩ := E
  obtain ⟨i, hi, hz, hsize, hby⟩ := info_parts hinfo
  subst hm
  by_cases hn : l = []
  · subst hn
    rcases A with _ | ad
    · have hrun : (Builtin.append_ #[T, T] o.type #[v, .slice none 0 c]).run P w0 = .ok v w0 := by
        rcases hown.2 with ⟨rfl, rfl⟩ | ⟨g, cap, cur, rfl, _, _, hnc, _⟩
        · simp [Builtin.append_, run_underlying ht, sizeOf, typeInfo, hi, Builtin.lenOf, Builtin.firstCells]
        · simp [Builtin.append_, run_underlying ht, sizeOf, typeInfo, hi, Builtin.lenOf, Builtin.firstCells, hnc, storeCells]
      unfold Oper.wp execOp
      simp only [List.length_nil] at hx
      simp only [ho, resolve, invoke, builtin, Sem.run_bind, Sem.run_pure, Result.andThen_ok, List.map_toArray, List.map_cons, List.map_nil, hs, hx, hrun]
      exact h v w0 (by simpa using hown) (World.grownBy.refl _ _)
    · obtain ⟨v', w', hr, h2, h3, _, _⟩ := run_append_own_at (P := P) w0 base T o.type e i z 1 bytes ht hi hz hsize hby hzs hsz v n xs hown ad 0 c [] rfl (fun j u hu => by simp at hu) (fun y hy => by simp at hy) (len_of_bytes hby0 hbytes) hbytes hbase
      unfold Oper.wp execOp
      simp only [List.length_nil] at hx
      simp only [ho, resolve, invoke, builtin, Sem.run_bind, Sem.run_pure, Result.andThen_ok, List.map_toArray, List.map_cons, List.map_nil, hs, hx, hr]
      exact h v' w' h2 h3
  · obtain ⟨ad, rfl, hc⟩ := hl.2 (List.length_pos_iff.2 hn)
    obtain ⟨v', w', hr, h2, h3, _, _⟩ := run_append_own_at (P := P) w0 base T o.type e i z 1 bytes ht hi hz hsize hby hzs hsz v n xs hown ad l.length c (l.map f) (by simp) (fun j u hu => by
        rw [List.getElem?_map] at hu
        cases hj : l[j]? with
        | none => rw [hj] at hu; cases hu
        | some y => rw [hj] at hu; injection hu with hu; rw [← hu]; exact hc j y hj)
      (fun y hy => by obtain ⟨y', _, rfl⟩ := List.mem_map.1 hy; exact h1 y') (len_of_bytes hby0 hbytes) hbytes hbase
    unfold Oper.wp execOp
    simp only [ho, resolve, invoke, builtin, Sem.run_bind, Sem.run_pure, Result.andThen_ok, List.map_toArray, List.map_cons, List.map_nil, hs, hx, hr]
    exact h v' w' h2 h3

theorem load_bool (p : Addr) (v : Value) (W : World) (h : W.cell? p = some v) : (Instr.loadAt 4 (.pointer (some p))).run Try.prog W = .ok v W := by simp [go_sem, h]
/-- a row of the top replaced by another one -/
theorem OwnRows.setRow {W : World} {base G n c : Nat} {rs : List SRow} {i : Nat} {r : SRow} (h : OwnRows W base (.slice (some ⟨G, 0, none⟩) n c) rs) (hr : W.ownsRow base 9 1 (vRow r) r.l.length (r.l.map vStr)) (ha : ∀ x ∈ rs, Apart (vRow x) (vRow r)) (hn : rs.length = n) :
    OwnRows (W.setCell ⟨G, i, none⟩ (vRow r)) base (.slice (some ⟨G, 0, none⟩) n c) (rs.set i r) := by
  subst hn
  obtain ⟨cur, hcur⟩ := own_kind h.top (k := G) rfl
  have pw := List.pairwise_iff_getElem.1 h.apart
  refine ⟨?_, fun x hx => ?_, ?_⟩
  · rw [List.length_set, List.map_set]
    exact own_set h.top _
  · rcases List.mem_or_eq_of_mem_set hx with hx | rfl
    · exact ownsRow_setCell_other (h.row x hx) (own_ne_kind (h.row x hx) hcur (by decide)) _
    · exact ownsRow_setCell_other hr (own_ne_kind hr hcur (by decide)) _
  · refine List.pairwise_iff_getElem.2 fun j k hj hk hjk => ?_
    rw [List.length_set] at hj hk
    rw [List.getElem_set, List.getElem_set]
    split
    · split
      · omega
      · exact (ha _ (List.getElem_mem _)).symm
    · split
      · exact ha _ (List.getElem_mem _)
      · exact pw j k hj hk hjk

theorem own_zero {w : World} {base m : Nat} {e : TypeId} {v : Value} {xs : List Value} (h : w.ownsRow base e 1 v (0 + m) ([] ++ xs)) : w.ownsRow base e 1 v m xs := by rwa [Nat.zero_add, List.nil_append] at h
theorem field_book (v : Value) (W : World) : (Instr.field 37 (.agg #[v]) 0).run Try.prog W = .ok v W := by kernel_rfl

/-- an empty text put in -/
def ins (k : Nat) (l : List ByteArray) : List ByteArray := (l.take k ++ [⟨#[]⟩]) ++ l.drop k
theorem ins_key (k : Nat) (l : List ByteArray) : keyOf (ins k l) = keyOf l := by
  have : texts (ins k l) = texts l := by
    unfold ins texts
    rw [List.filter_append, List.filter_append, show [(⟨#[]⟩ : ByteArray)].filter (· ≠ ByteArray.empty) = [] from rfl, List.append_nil, ← List.filter_append, List.take_append_drop]
  unfold keyOf
  rw [this]
theorem ins_len {k : Nat} {l : List ByteArray} (h : k ≤ l.length) : (ins k l).length = l.length + 1 := by simp [ins]; omega
/-- the first j rows have the text put in -/
def InsTo (k j : Nat) (rs ts : List SRow) : Prop := ts.length = rs.length ∧ ∀ (i : Nat) (r t : SRow), rs[i]? = some r → ts[i]? = some t → t.l = if i < j then ins k r.l else r.l
theorem InsTo.start {k : Nat} {rs ts : List SRow} (h : Same ts rs) : InsTo k 0 rs ts := by
  refine ⟨h.len, fun i r t hr ht => ?_⟩
  rw [if_neg (by omega)]
  have : (ts.map SRow.l)[i]? = some t.l := by rw [List.getElem?_map, ht]; rfl
  rw [show ts.map SRow.l = rs.map SRow.l from h, List.getElem?_map, hr] at this
  exact (Option.some.inj this).symm
theorem InsTo.step {k j : Nat} {rs ts : List SRow} {t' : SRow} (h : InsTo k j rs ts) (hj : j < rs.length) (ht : t'.l = ins k (rs[j]).l) : InsTo k (j + 1) rs (ts.set j t') := by
  refine ⟨by rw [List.length_set]; exact h.1, fun i r t hr hx => ?_⟩
  rw [List.getElem?_set] at hx
  split at hx
  · rename_i e
    subst e
    split at hx
    · injection hx with hx
      subst hx
      rw [if_pos (by omega), ht]
      rw [List.getElem?_eq_getElem hj] at hr
      rw [Option.some.inj hr]
    · cases hx
  · rename_i e
    rw [h.2 i r t hr hx]
    by_cases hij : i < j
    · rw [if_pos hij, if_pos (by omega)]
    · rw [if_neg hij, if_neg (by omega)]
theorem InsTo.at_ {k j : Nat} {rs ts : List SRow} (h : InsTo k j rs ts) (hj : j < rs.length) (hl : j < ts.length) : (ts[j]).l = (rs[j]).l := by
  have := h.2 j rs[j] ts[j] (List.getElem?_eq_getElem hj) (List.getElem?_eq_getElem hl)
  rwa [if_neg (by omega)] at this
theorem InsTo.all {k cols : Nat} {rs ts : List SRow} (h : InsTo k rs.length rs ts) (ht : Tidy rs cols) (hk : k ≤ cols) : rowKeys ts = rowKeys rs ∧ Tidy ts (cols + 1) := by
  have each : ∀ (i : Nat) (r t : SRow), rs[i]? = some r → ts[i]? = some t → t.l = ins k r.l := fun i r t hr hx => by
    have := h.2 i r t hr hx
    rwa [if_pos (List.getElem?_eq_some_iff.1 hr).1] at this
  refine ⟨?_, ?_⟩
  · apply List.ext_getElem?
    intro i
    simp only [rowKeys, List.getElem?_map]
    cases hr : rs[i]? with
    | none =>
      have : ts.length ≤ i := by rw [h.1]; exact List.getElem?_eq_none_iff.1 hr
      rw [List.getElem?_eq_none this]
    | some r =>
      have hi := (List.getElem?_eq_some_iff.1 hr).1
      have hx : ts[i]? = some (ts[i]'(by rw [h.1]; exact hi)) := List.getElem?_eq_getElem _
      rw [hx]
      simp only [Option.map_some]
      rw [each i r _ hr hx, ins_key]
  · have per : ∀ t ∈ ts, ∃ r ∈ rs, t.l = ins k r.l := fun t htm => by
      obtain ⟨i, hi⟩ := List.getElem?_of_mem htm
      have hl : i < rs.length := by rw [← h.1]; exact (List.getElem?_eq_some_iff.1 hi).1
      exact ⟨rs[i], List.getElem_mem _, each i _ t (List.getElem?_eq_getElem hl) hi⟩
    refine ⟨fun t htm => ?_, fun t htm s hs => ?_⟩
    · obtain ⟨r, hr, e⟩ := per t htm
      have := ht.1 r hr
      rw [e, ins_len (by omega), this]
    · obtain ⟨r, hr, e⟩ := per t htm
      rw [e] at hs
      simp only [ins, List.mem_append, List.mem_singleton] at hs
      rcases hs with (hs | rfl) | hs
      · exact ht.2 r hr s (List.mem_of_mem_take hs)
      · decide
      · exact ht.2 r hr s (List.mem_of_mem_drop hs)

set_option maxRecDepth 100000 in
set_option maxHeartbeats 8000000 in
theorem alignSelf_walk (w : World) (X : Option Addr) (ns : List UInt8) (cx : Nat) (n0 a0 : Int) (hX : At1 vByte w X ns) (h1 : (Lit.int .u8 n0).wf = true) (h2 : (Lit.int .u8 a0).wf = true) :
    Calls Try.prog 5 #[.slice X ns.length cx, .int .u8 n0, .int .u8 a0] w fun e w' => e = .returned (.bool true) ∧ Below w.heap.size w w' := by
  have nat8 : ∀ z : Int, (Lit.int .u8 z).wf = true → ∃ q : Nat, z = (q : Int) ∧ q < 256 := fun z h => by
    simp [Lit.wf, IntKind.min, IntKind.max, IntKind.signed, IntKind.bits] at h; exact ⟨z.toNat, by omega, by omega⟩
  obtain ⟨shape, rfl, hshape⟩ := nat8 n0 h1
  obtain ⟨q, rfl, hq⟩ := nat8 a0 h2
  have HX := Lib.hid hX
  clear h1 h2 nat8 hX
  by_cases h60 : 60 < ns.length
  · have h60z : (60 : Int) < (ns.length : Int) := by omega
    go_enter Try.func5, Try.ntmps5
    go_wp2_with fail
    refine (awake_any w).mono ?_
    rintro e w1 ⟨rfl, hb1⟩
    go_wp2
    go_ret
    exact ⟨rfl, hb1⟩
  have h60z : ¬ (60 : Int) < (ns.length : Int) := by omega
  have HBK := Lib.hid (book_any w X ns cx shape HX.out (by omega) hshape)
  have hcn : 1 ≤ 1 + shape / 3 % 4 ∧ 1 + shape / 3 % 4 ≤ 4 := by omega
  have hrn : 1 + shape / 12 % 5 ≤ 5 := by omega
  generalize 1 + shape / 3 % 4 = cn at *
  generalize 1 + shape / 12 % 5 = rn at *
  go_enter Try.func5, Try.ntmps5
  go_wp2_with fail
  refine HBK.out.mono ?_
  rintro e w1 ⟨g, n, c, nm, B, d, rs, rfl, hn0, k0, k1, k2, hG, hrl, hT, hb1⟩
  have hn0z : (0 : Int) < (n : Int) := by omega
  have HG := Lib.hid hG
  have HRL := Lib.hid hrl
  have HT := Lib.hid hT
  have HMI := Lib.hid (hT.mild (by omega) (by omega))
  have HTL : Hid (keyOf = keyOf) := rfl
  clear hG hrl hT h60z HBK HX
  have hfd := fun W => field_book (.slice (some ⟨g, 0, none⟩) n c) W
  go_wp2_with fail
  obtain ⟨W2, hW2⟩ : ∃ W2, W2 = w1.alloc (.cells #[.string nm, .int .i64 cn, .slice B rn d] 24) := ⟨_, rfl⟩
  obtain ⟨SA, hSA⟩ : ∃ SA, w1.heap.size = SA := ⟨_, rfl⟩
  have e2 : Below w1.heap.size w1 W2 := by rw [hW2]; exact (Below.refl _ _).alloc (Nat.le_refl _) _
  have hA2 : W2.heap[SA]? = some (.cells #[.string nm, .int .i64 cn, .slice B rn d] 24 (0, 0)) := by rw [hW2, ← hSA]; exact heap_alloc_new _ _
  have hb2 := hb1.trans (e2.mono hb1.size)
  have HG2 := Lib.hid (HG.out.below e2)
  rw [← hW2, hSA]
  clear hW2 hSA e2 HG hb1 k0 k1 k2 hn0z hn0 hfd
  refine (alignSheets_rd W2 B B rs rs rn rn d d nm nm cn cn cn cn HRL.out HRL.out rfl rfl HG2.out HG2.out HMI.out HMI.out HT.out.1 HT.out.1 (by omega) (by omega)).mono ?_
  rintro e w3 ⟨Z1, f1, Z2, f2, rfl, hZ1, hZ2, hb3⟩
  rw [rows_self _ (by rw [rowKeys_len]; have := HRL.out; omega), rowKeys_len] at hZ1 hZ2
  rw [cols_own rfl (by omega) (fun i r t hr ht _ => by rw [hr] at ht; rw [Option.some.inj ht])] at hZ2
  rw [HRL.out] at hZ1
  have HZ1 := Lib.hid hZ1
  have HZ2 := Lib.hid hZ2
  clear hZ1 hZ2
  go_wp2
  obtain ⟨W4, hW4⟩ : ∃ W4, W4 = w3.alloc (.cells #[.string nm, .slice Z1 rn f1, .int .i64 rn, .slice Z2 cn f2, .int .i64 cn, .bool false] 42) := ⟨_, rfl⟩
  obtain ⟨SC, hSC⟩ : ∃ SC, w3.heap.size = SC := ⟨_, rfl⟩
  have e4 : Below w3.heap.size w3 W4 := by rw [hW4]; exact (Below.refl _ _).alloc (Nat.le_refl _) _
  have hC4 : W4.heap[SC]? = some (.cells #[.string nm, .slice Z1 rn f1, .int .i64 rn, .slice Z2 cn f2, .int .i64 cn, .bool false] 42 (0, 0)) := by rw [hW4, ← hSC]; exact heap_alloc_new _ _
  have hbA : Below W2.heap.size W2 W4.drew := (hb3.trans (e4.mono hb3.size)).drew
  have Y1 := Lib.hid ((HZ1.out.below e4).below (w' := W4.drew) (Below.refl _ _).drew)
  have Y2 := Lib.hid ((HZ2.out.below e4).below (w' := W4.drew) (Below.refl _ _).drew)
  have hCd : W4.drew.heap[SC]? = some (.cells #[.string nm, .slice Z1 rn f1, .int .i64 rn, .slice Z2 cn f2, .int .i64 cn, .bool false] 42 (0, 0)) := hC4
  have hAd := (hbA.block SA (Array.getElem?_eq_some_iff.1 hA2).1).trans hA2
  have hbw := hb2.trans (hbA.mono hb2.size)
  have HGd := Lib.hid (HG2.out.below hbA)
  rw [← hW4, hSC]
  clear hW4 hSC e4 hC4 HZ1 HZ2 hb3 hbA hA2 hb2 HG2
  refine wp_region_tree [] (.free 0 (.free 1 (.free 2 (.free 3 (.free 4 (.eff 5 (.eff 6 (.free 7 (.free 8 (.free 9 (.free 10 (.free 11 (.free 12 (.eff 13 (.eff 14 (.free 15 (.free 16 (.free 17 (.free 18 (.free 19 (.free 20 (.free 21 (.free 22 (.free 23 (.free 24 (.free 25 (.free 26 (.free 27 (.nil))))))))))))))))))))))))))))) (by kernel_rfl) (by kernel_rfl) (fun _ _ d _ _ h => by cases d <;> exact h) ?_
  generalize W4.drew = wv at *
  obtain ⟨a0, a1, a2⟩ := sheet3 hAd
  obtain ⟨c0, c1, c2, c3, c4, c5, _⟩ := shift6 hCd
  have hCl : SC < wv.heap.size := (Array.getElem?_eq_some_iff.1 hCd).1
  have hAl : SA < wv.heap.size := (Array.getElem?_eq_some_iff.1 hAd).1
  conv => arg 4; whnf
  conv => arg 4; arg 1; whnf
  refine pt_free (by rfl) (fun K hK => ?_)
  go_big_quiet_op
  first | (refine hK _ ?_; clear hK K) | (refine ⟨_, fun _ _ => rfl, hK _ ?_⟩; clear hK K)
  conv => arg 4; whnf
  conv => arg 4; arg 1; whnf
  refine pt_loadC (p := ⟨SC, 1, none⟩) (fun W h => load_shift1 _ W _ _ _ _ _ _ (h.trans hCd)) hCl (by rfl) rfl rfl ?_
  simp only [Act.put, List.setIfInBounds_toArray, List.set_cons_zero, List.set_cons_succ]
  conv => arg 4; whnf
  conv => arg 4; arg 1; whnf
  refine pt_free (by rfl) (fun K hK => ?_)
  go_big_quiet_op
  first | (refine hK _ ?_; clear hK K) | (refine ⟨_, fun _ _ => rfl, hK _ ?_⟩; clear hK K)
  conv => arg 4; whnf
  conv => arg 4; arg 1; whnf
  refine pt_load (fun W h => load_rows _ _ W h) (p := ⟨SA, 2, none⟩) a2 hAl (by rfl) rfl rfl ?_
  simp only [Act.put, List.setIfInBounds_toArray, List.set_cons_zero, List.set_cons_succ]
  conv => arg 4; whnf
  conv => arg 4; arg 1; whnf
  refine pt_free (by rfl) (fun K hK => ?_)
  go_big_quiet_op
  first | (refine hK _ ?_; clear hK K) | (refine ⟨_, fun _ _ => rfl, hK _ ?_⟩; clear hK K)
  conv => arg 4; whnf
  conv => arg 4; arg 1; whnf
  refine pt_eff (by rfl) (fun K hK => ?_)
  go_wp2_with fail
  refine (same_rd _ rn _ rfl (by omega)).mono ?_
  rintro e wn ⟨S1, g1, rfl, hS1, hbn⟩
  refine hK _ _ hbn ?_
  clear hK K
  have Y3 := Lib.hid (Y1.out.below hbn)
  have Y4 := Lib.hid (Y2.out.below hbn)
  have HS1 := Lib.hid hS1
  clear Y1 Y2 hS1
  have hbw := hbw.trans (hbn.mono hbw.size)
  have hAd := (hbn.block SA hAl).trans hAd
  have hCd := (hbn.block SC hCl).trans hCd
  have HGd := Lib.hid (HGd.out.below hbn)
  clear a0 a1 a2 c0 c1 c2 c3 c4 c5 hCl hAl hbn
  generalize wn = wv at *
  obtain ⟨a0, a1, a2⟩ := sheet3 hAd
  obtain ⟨c0, c1, c2, c3, c4, c5, _⟩ := shift6 hCd
  have hCl : SC < wv.heap.size := (Array.getElem?_eq_some_iff.1 hCd).1
  have hAl : SA < wv.heap.size := (Array.getElem?_eq_some_iff.1 hAd).1
  conv => arg 4; whnf
  conv => arg 4; arg 1; whnf
  refine pt_eff (by rfl) (fun K hK => ?_)
  go_wp2_with fail
  refine (sameMap_any _ Z1 S1 (upto rn) (upto rn) rn rn f1 g1 rn (upto_len rn) (upto_len rn) Y3.out HS1.out rfl).mono ?_
  rintro e wn ⟨rfl, hbn⟩
  refine hK _ _ hbn ?_
  clear hK K
  have Y5 := Lib.hid (Y4.out.below hbn)
  clear Y3 Y4 HS1
  have hbw := hbw.trans (hbn.mono hbw.size)
  have hAd := (hbn.block SA hAl).trans hAd
  have hCd := (hbn.block SC hCl).trans hCd
  have HGd := Lib.hid (HGd.out.below hbn)
  clear a0 a1 a2 c0 c1 c2 c3 c4 c5 hCl hAl hbn
  generalize wn = wv at *
  obtain ⟨a0, a1, a2⟩ := sheet3 hAd
  obtain ⟨c0, c1, c2, c3, c4, c5, _⟩ := shift6 hCd
  have hCl : SC < wv.heap.size := (Array.getElem?_eq_some_iff.1 hCd).1
  have hAl : SA < wv.heap.size := (Array.getElem?_eq_some_iff.1 hAd).1
  conv => arg 4; whnf
  conv => arg 4; arg 1; whnf
  refine pt_free (by rfl) (fun K hK => ?_)
  go_big_quiet_op
  first | (refine hK _ ?_; clear hK K) | (refine ⟨_, fun _ _ => rfl, hK _ ?_⟩; clear hK K)
  conv => arg 4; whnf
  conv => arg 4; arg 1; whnf
  refine pt_free (by rfl) (fun K hK => ?_)
  go_big_quiet_op
  first | (refine hK _ ?_; clear hK K) | (refine ⟨_, fun _ _ => rfl, hK _ ?_⟩; clear hK K)
  conv => arg 4; whnf
  conv => arg 4; arg 1; whnf
  refine pt_free (by rfl) (fun K hK => ?_)
  go_big_quiet_op
  first | (refine hK _ ?_; clear hK K) | (refine ⟨_, fun _ _ => rfl, hK _ ?_⟩; clear hK K)
  conv => arg 4; whnf
  conv => arg 4; arg 1; whnf
  refine pt_loadC (p := ⟨SC, 3, none⟩) (fun W h => load_shift2 _ W _ _ _ _ _ _ (h.trans hCd)) hCl (by rfl) rfl rfl ?_
  simp only [Act.put, List.setIfInBounds_toArray, List.set_cons_zero, List.set_cons_succ]
  conv => arg 4; whnf
  conv => arg 4; arg 1; whnf
  refine pt_free (by rfl) (fun K hK => ?_)
  go_big_quiet_op
  first | (refine hK _ ?_; clear hK K) | (refine ⟨_, fun _ _ => rfl, hK _ ?_⟩; clear hK K)
  conv => arg 4; whnf
  conv => arg 4; arg 1; whnf
  refine pt_load (fun W h => load_int _ _ W h) (p := ⟨SA, 1, none⟩) a1 hAl (by rfl) rfl rfl ?_
  simp only [Act.put, List.setIfInBounds_toArray, List.set_cons_zero, List.set_cons_succ]
  conv => arg 4; whnf
  conv => arg 4; arg 1; whnf
  refine pt_eff (by rfl) (fun K hK => ?_)
  go_wp2_with fail
  refine (same_rd _ cn _ rfl (by omega)).mono ?_
  rintro e wn ⟨S2, g2, rfl, hS2, hbn⟩
  refine hK _ _ hbn ?_
  clear hK K
  have Y6 := Lib.hid (Y5.out.below hbn)
  have HS2 := Lib.hid hS2
  clear Y5 hS2
  have hbw := hbw.trans (hbn.mono hbw.size)
  have hAd := (hbn.block SA hAl).trans hAd
  have hCd := (hbn.block SC hCl).trans hCd
  have HGd := Lib.hid (HGd.out.below hbn)
  clear a0 a1 a2 c0 c1 c2 c3 c4 c5 hCl hAl hbn
  generalize wn = wv at *
  obtain ⟨a0, a1, a2⟩ := sheet3 hAd
  obtain ⟨c0, c1, c2, c3, c4, c5, _⟩ := shift6 hCd
  have hCl : SC < wv.heap.size := (Array.getElem?_eq_some_iff.1 hCd).1
  have hAl : SA < wv.heap.size := (Array.getElem?_eq_some_iff.1 hAd).1
  conv => arg 4; whnf
  conv => arg 4; arg 1; whnf
  refine pt_eff (by rfl) (fun K hK => ?_)
  go_wp2_with fail
  refine (sameMap_any _ Z2 S2 (upto cn) (upto cn) cn cn f2 g2 cn (upto_len cn) (upto_len cn) Y6.out HS2.out rfl).mono ?_
  rintro e wn ⟨rfl, hbn⟩
  refine hK _ _ hbn ?_
  clear hK K
  clear Y6 HS2
  have hbw := hbw.trans (hbn.mono hbw.size)
  have hAd := (hbn.block SA hAl).trans hAd
  have hCd := (hbn.block SC hCl).trans hCd
  have HGd := Lib.hid (HGd.out.below hbn)
  clear a0 a1 a2 c0 c1 c2 c3 c4 c5 hCl hAl hbn
  generalize wn = wv at *
  obtain ⟨a0, a1, a2⟩ := sheet3 hAd
  obtain ⟨c0, c1, c2, c3, c4, c5, _⟩ := shift6 hCd
  have hCl : SC < wv.heap.size := (Array.getElem?_eq_some_iff.1 hCd).1
  have hAl : SA < wv.heap.size := (Array.getElem?_eq_some_iff.1 hAd).1
  conv => arg 4; whnf
  conv => arg 4; arg 1; whnf
  refine pt_free (by rfl) (fun K hK => ?_)
  go_big_quiet_op
  first | (refine hK _ ?_; clear hK K) | (refine ⟨_, fun _ _ => rfl, hK _ ?_⟩; clear hK K)
  conv => arg 4; whnf
  conv => arg 4; arg 1; whnf
  refine pt_free (by rfl) (fun K hK => ?_)
  go_big_quiet_op
  first | (refine hK _ ?_; clear hK K) | (refine ⟨_, fun _ _ => rfl, hK _ ?_⟩; clear hK K)
  conv => arg 4; whnf
  conv => arg 4; arg 1; whnf
  refine pt_free (by rfl) (fun K hK => ?_)
  go_big_quiet_op
  first | (refine hK _ ?_; clear hK K) | (refine ⟨_, fun _ _ => rfl, hK _ ?_⟩; clear hK K)
  conv => arg 4; whnf
  conv => arg 4; arg 1; whnf
  refine pt_free (by rfl) (fun K hK => ?_)
  go_big_quiet_op
  first | (refine hK _ ?_; clear hK K) | (refine ⟨_, fun _ _ => rfl, hK _ ?_⟩; clear hK K)
  conv => arg 4; whnf
  conv => arg 4; arg 1; whnf
  refine pt_load (fun W h => load_bool _ _ W h) (p := ⟨SC, 5, none⟩) c5 hCl (by rfl) rfl rfl ?_
  simp only [Act.put, List.setIfInBounds_toArray, List.set_cons_zero, List.set_cons_succ]
  conv => arg 4; whnf
  conv => arg 4; arg 1; whnf
  refine pt_free (by rfl) (fun K hK => ?_)
  go_big_quiet_op
  first | (refine hK _ ?_; clear hK K) | (refine ⟨_, fun _ _ => rfl, hK _ ?_⟩; clear hK K)
  conv => arg 4; whnf
  conv => arg 4; arg 1; whnf
  refine pt_free (by rfl) (fun K hK => ?_)
  go_big_quiet_op
  first | (refine hK _ ?_; clear hK K) | (refine ⟨_, fun _ _ => rfl, hK _ ?_⟩; clear hK K)
  conv => arg 4; whnf
  conv => arg 4; arg 1; whnf
  refine pt_free (by rfl) (fun K hK => ?_)
  go_big_quiet_op
  first | (refine hK _ ?_; clear hK K) | (refine ⟨_, fun _ _ => rfl, hK _ ?_⟩; clear hK K)
  conv => arg 4; whnf
  conv => arg 4; arg 1; whnf
  refine pt_load (fun W h => load_str _ _ W h) (p := ⟨SC, 0, none⟩) c0 hCl (by rfl) rfl rfl ?_
  simp only [Act.put, List.setIfInBounds_toArray, List.set_cons_zero, List.set_cons_succ]
  conv => arg 4; whnf
  conv => arg 4; arg 1; whnf
  refine pt_free (by rfl) (fun K hK => ?_)
  go_big_quiet_op
  first | (refine hK _ ?_; clear hK K) | (refine ⟨_, fun _ _ => rfl, hK _ ?_⟩; clear hK K)
  conv => arg 4; whnf
  conv => arg 4; arg 1; whnf
  refine pt_load (fun W h => load_str _ _ W h) (p := ⟨SA, 0, none⟩) a0 hAl (by rfl) rfl rfl ?_
  simp only [Act.put, List.setIfInBounds_toArray, List.set_cons_zero, List.set_cons_succ]
  have hst := str_eq_true (rfl : nm = nm)
  conv => arg 4; whnf
  conv => arg 4; arg 1; whnf
  refine pt_free (by rfl) (fun K hK => ?_)
  go_big_quiet_op
  first | (refine hK _ ?_; clear hK K) | (refine ⟨_, fun _ _ => rfl, hK _ ?_⟩; clear hK K)
  conv => arg 4; whnf
  conv => arg 4; arg 1; whnf
  refine pt_free (by rfl) (fun K hK => ?_)
  go_big_quiet_op
  first | (refine hK _ ?_; clear hK K) | (refine ⟨_, fun _ _ => rfl, hK _ ?_⟩; clear hK K)
  refine pt_nil ?_
  clear c0 c1 c2 c3 c4 c5 hCl
  go_wp2_with fail
  refine (copySheet_any wv B rs rn d nm cn HRL.out HGd.out HMI.out).mono ?_
  rintro e w6 ⟨A2, c2, ts, he, HTS, hst2, hb6⟩
  have hins := InsTo.start (k := q % (cn + 1)) hst2
  have htl : ts.length = rn := by rw [hins.1]; exact HRL.out
  rw [htl] at he HTS
  subst he
  have HINS := Lib.hid hins
  have HTS := Lib.hid HTS
  have hsA := (hb6.block SA hAl).trans hAd
  obtain ⟨x0, x1, x2⟩ := sheet3 hsA
  obtain ⟨kk, hkk⟩ : ∃ kk : Nat, kk = q % (cn + 1) := ⟨_, rfl⟩
  have q1 : (q : Int) % ((cn : Int) + 1) = (kk : Int) := by rw [hkk]; simp
  have Q1 := Lib.hid q1
  have hkc : kk ≤ cn := by rw [hkk]; have := Nat.mod_lt q (show 0 < cn + 1 by omega); omega
  rw [← hkk] at HINS
  have e1 : IntKind.i64.wrap (q : Int) = q := by simp [IntKind.wrap, IntKind.signed, IntKind.bits]; omega
  have k0 : ¬ ((cn : Int) + 1 = 0) := by omega
  clear hst2 hins htl a0 a1 a2 hst hkk hCd
  have HA6 := Lib.hid hsA
  clear hsA
  have hx1 := (World.cell?_alloc_lt w6 (.cells #[.string nm, .int .i64 cn, .slice A2 rn c2] 24) ⟨SA, 1, none⟩ (World.block_lt_of_cell? w6 _ x1)).trans x1
  go_wp2
  rw [Q1.out]
  obtain ⟨W8, hW8⟩ : ∃ W8, W8 = w6.alloc (.cells #[.string nm, .int .i64 ((cn : Int) + 1), .slice A2 rn c2] 24) := ⟨_, rfl⟩
  obtain ⟨SB, hSB⟩ : ∃ SB, w6.heap.size = SB := ⟨_, rfl⟩
  have e8 : Below w6.heap.size w6 W8 := by rw [hW8]; exact (Below.refl _ _).alloc (Nat.le_refl _) _
  have hB8 : W8.heap[SB]? = some (.cells #[.string nm, .int .i64 ((cn : Int) + 1), .slice A2 rn c2] 24 (0, 0)) := by rw [hW8, ← hSB]; exact heap_alloc_new _ _
  have HT8 := Lib.hid (HTS.out.keep e8)
  have hb8 : Below wv.heap.size wv W8 := hb6.trans (e8.mono hb6.size)
  rw [← hW8, hSB]
  clear hW8 hSB e8 HTS hb6 x0 x1 x2 hx1 q1 Q1 e1 k0
  generalize hwb : wv = wb at *
  clear hwb
  go_loopw [11, 12] (fun i _ wr => ∃ (j : Nat) (ts : List SRow), j ≤ rn ∧ i = .int .i64 j ∧ wr.heap[SB]? = some (.cells #[.string nm, .int .i64 ((cn : Int) + 1), .slice A2 rn c2] 24 (0, 0)) ∧ Hid (OwnRows wr wb.heap.size (.slice A2 rn c2) ts) ∧ Hid (InsTo kk j rs ts) ∧ wb.heap.size ≤ wr.heap.size ∧ Below wb.heap.size wb wr) (fun i _ _ => rn - (intOf i).toNat)
  case atStart => exact ⟨0, ts, Nat.zero_le _, rfl, hB8, HT8.out, HINS.out, hb8.size, hb8⟩
  case round =>
    clear HINS HT8 hB8 hb8
    obtain ⟨j, ts, hj, rfl, hB, HO, HI, hsz2, hb2⟩ := hrel
    obtain ⟨s0, s1, s2⟩ := sheet3 hB
    have hSl : SB < wr.heap.size := (Array.getElem?_eq_some_iff.1 hB).1
    have hAr := (hb2.block SA hAl).trans hAd
    have hbr := hbw.trans (hb2.mono hbw.size)
    have hll : ts.length = rn := by rw [HI.out.1]; exact HRL.out
    have HLL := Lib.hid hll
    by_cases hlt : j < rn
    · have hjr : j < rs.length := by rw [HRL.out]; exact hlt
      have hjt : j < ts.length := by omega
      have hjz : (j : Int) < (rn : Int) := by omega
      obtain ⟨G2, hG2⟩ : ∃ G2, A2 = some ⟨G2, 0, none⟩ := by
        rcases HO.out.top.2 with ⟨_, h0⟩ | ⟨g, cap, cur, hv, _⟩
        · omega
        · injection hv with hv; exact ⟨g, hv⟩
      subst hG2
      have hatj := HI.out.at_ hjr hjt
      have hw3 := HT.out.1 rs[j] (List.getElem_mem _)
      have hrow := HO.out.row ts[j] (List.getElem_mem _)
      obtain ⟨d1, d3, _⟩ := own_cell (n := rn) (cap := c2) (by have := HO.out.top; rwa [hll] at this) (i := j) (x := vRow ts[j]) (by rw [List.getElem?_map, List.getElem?_eq_getElem hjt]; rfl)
      obtain ⟨l0, hl0⟩ : ∃ l0, l0 = (rs[j]).l := ⟨_, rfl⟩
      rw [← hl0] at hatj hw3
      have HL0 := Lib.hid hl0
      generalize ts[j] = tr at d1 hrow hatj
      obtain ⟨tA, tl, tc⟩ := tr
      dsimp only at hatj
      subst hatj
      unfold vRow at d1 hrow
      dsimp only at d1 hrow
      rw [hw3] at d1
      have hrA : At1 vStr wr tA tl := At1.of_own hrow (by omega)
      obtain ⟨_, cq, hcq, hcap, _⟩ := own_form hrow
      have hcap2 : cn ≤ tc := by injection hcq with _ _ hcq; rw [hw3] at hcap; omega
      have HRA := Lib.hid hrA
      have hw3H := Lib.hid hw3
      clear hl0 hll hrow hrA hcq hcap
      have hlitw : ∃ L, L = wr.alloc (.cells #[] 9) := ⟨_, rfl⟩
      obtain ⟨L, hL⟩ := hlitw
      have eL : Below wr.heap.size wr L := by rw [hL]; exact (Below.refl _ _).alloc (Nat.le_refl _) _
      have hlit : L.ownsRow wr.heap.size 9 1 (.slice (some ⟨wr.heap.size, 0, none⟩) 0 0) 0 [] := by rw [hL]; exact own_lit0 (Nat.le_refl _)
      have L2 : L.cell? ⟨SB, 2, none⟩ = some (.slice (some ⟨G2, 0, none⟩) rn c2) := (eL.cell (p := ⟨SB, 2, none⟩) hSl).trans s2
      have hGl : G2 < wr.heap.size := World.block_lt_of_cell? wr _ d1
      have L3 : L.cell? ⟨G2, j, none⟩ = some (.slice tA cn tc) := (eL.cell (p := ⟨G2, j, none⟩) hGl).trans d1
      have L4 : At1 vStr L tA (tl.take kk) := (HRA.out.below eL).take kk
      have htk : (tl.take kk).length = kk := by rw [List.length_take, hw3H.out]; omega
      have HTK := Lib.hid htk
      have hls : wr.heap.size ≤ L.heap.size := eL.size
      rw [hL] at hlit L2 L3 L4 hls
      clear hw3 htk eL
      have hkz : (kk : Int) ≤ (tc : Int) := by omega
      have hkz2 : (0 : Int) ≤ (kk : Int) := by omega
      have hkt : kk ≤ tc := by omega
      subst hL
      have hlk : (tl.take kk).length ≤ 4 := by have := HTK.out; omega
      have hbl : Below wr.heap.size wr (wr.alloc (.cells #[] 9)) := (Below.refl _ _).alloc (Nat.le_refl _) _
      go_wp2_with (first | (at_builtin; refine wpList_appAll eStr rfl rfl hlit rfl rfl HTK.out.symm L4 (fun _ => rfl) (by omega) hls ?_; intro v3 w3 hown3 hg3 hk3; have hb3 := below_grown hbl hlit hg3 (Nat.le_refl _) hls; have hs3 := hb3.size; have hown3' := own_zero hown3; clear hown3) | (at_builtin; refine wpList_app1 eStr rfl rfl hown3' rfl rfl (by first | rfl | simp) rfl (by omega) hs3 ?_; intro v4 w4 hown4 hg4 hk4))
      clear hlit L2 L3 L4 hls hbl
      have hb4 : Below wr.heap.size wr w4 := below_grown hb3 hown3' hg4 (Nat.le_refl _) hs3
      have hown5 : w4.drew.ownsRow wr.heap.size 9 1 v4 (tl.take kk ++ [(⟨#[]⟩ : ByteArray)]).length ((tl.take kk ++ [(⟨#[]⟩ : ByteArray)]).map vStr) := by
        rw [List.length_append, List.map_append]
        exact own_below hown4 (Below.refl _ _).drew
      have hb5 : Below wr.heap.size wr w4.drew := hb4.drew
      clear hown3' hown4 hg4 hk4 hb3 hs3
      have hs5 := hb5.size
      have p2 := (hb5.cell (p := ⟨SB, 2, none⟩) hSl).trans s2
      have p3 := (hb5.cell (p := ⟨G2, j, none⟩) hGl).trans d1
      have lB : SB < w4.drew.heap.size := by omega
      have lG : G2 < w4.drew.heap.size := by omega
      have hcut := (HRA.out.below hb5).cut (k := kk) (cap := tc) (by rw [hw3H.out]; exact hkc) (by rw [hw3H.out]; exact hcap2)
      have HCUT := Lib.hid hcut
      have hdk : (tl.drop kk).length = cn - kk := by rw [List.length_drop, hw3H.out]
      have HDK := Lib.hid hdk
      clear hcut hdk
      have hvf : ∃ A5 c5, v4 = .slice A5 (tl.take kk ++ [(⟨#[]⟩ : ByteArray)]).length c5 := by obtain ⟨A5, c5, rfl, _⟩ := own_form hown5; exact ⟨A5, c5, rfl⟩
      obtain ⟨A5, c5, rfl⟩ := hvf
      have hlk5 : (tl.take kk ++ [(⟨#[]⟩ : ByteArray)]).length ≤ 5 := by rw [List.length_append]; simp only [List.length_singleton]; omega
      have hdl : (tl.drop kk).length ≤ 4 := by have := HDK.out; omega
      refine PB.wp_region_tree wr.heap.size [13] (.free 0 (.free 1 (.free 2 (.free 3 (.free 4 (.free 5 (.free 6 (.free 7 (.free 8 (.free 9 (.free 10 (.eff 11 (.free 12 (.last 13 (.nil))))))))))))))) (by kernel_rfl) (by kernel_rfl) (fun _ _ d _ _ h => by cases d <;> exact h) ?_
      conv => arg 5; whnf
      conv => arg 5; arg 1; whnf
      refine PB.pt_free (by rfl) (fun K hK => ?_)
      go_big_quiet_op
      first | (refine hK _ ?_; clear hK K) | (refine ⟨_, fun _ _ => rfl, hK _ ?_⟩; clear hK K)
      conv => arg 5; whnf
      conv => arg 5; arg 1; whnf
      refine PB.pt_load (fun W h => load_rows _ _ W h) (p := ⟨SB, 2, none⟩) p2 hSl (by rfl) rfl rfl ?_
      simp only [Act.put, List.setIfInBounds_toArray, List.set_cons_zero, List.set_cons_succ]
      conv => arg 5; whnf
      conv => arg 5; arg 1; whnf
      refine PB.pt_free (by rfl) (fun K hK => ?_)
      go_big_quiet_op
      first | (refine hK _ ?_; clear hK K) | (refine ⟨_, fun _ _ => rfl, hK _ ?_⟩; clear hK K)
      conv => arg 5; whnf
      conv => arg 5; arg 1; whnf
      refine PB.pt_free (by rfl) (fun K hK => ?_)
      go_big_quiet_op
      first | (refine hK _ ?_; clear hK K) | (refine ⟨_, fun _ _ => rfl, hK _ ?_⟩; clear hK K)
      conv => arg 5; whnf
      conv => arg 5; arg 1; whnf
      refine PB.pt_free (by rfl) (fun K hK => ?_)
      go_big_quiet_op
      first | (refine hK _ ?_; clear hK K) | (refine ⟨_, fun _ _ => rfl, hK _ ?_⟩; clear hK K)
      conv => arg 5; whnf
      conv => arg 5; arg 1; whnf
      refine PB.pt_load (fun W h => load_rows _ _ W h) (p := ⟨SB, 2, none⟩) p2 hSl (by rfl) rfl rfl ?_
      simp only [Act.put, List.setIfInBounds_toArray, List.set_cons_zero, List.set_cons_succ]
      conv => arg 5; whnf
      conv => arg 5; arg 1; whnf
      refine PB.pt_free (by rfl) (fun K hK => ?_)
      go_big_quiet_op
      first | (refine hK _ ?_; clear hK K) | (refine ⟨_, fun _ _ => rfl, hK _ ?_⟩; clear hK K)
      conv => arg 5; whnf
      conv => arg 5; arg 1; whnf
      refine PB.pt_free (by rfl) (fun K hK => ?_)
      go_big_quiet_op
      first | (refine hK _ ?_; clear hK K) | (refine ⟨_, fun _ _ => rfl, hK _ ?_⟩; clear hK K)
      conv => arg 5; whnf
      conv => arg 5; arg 1; whnf
      refine PB.pt_load (fun W h => load_strs _ _ W h) (p := ⟨G2, j, none⟩) p3 hGl (by rfl) rfl rfl ?_
      simp only [Act.put, List.setIfInBounds_toArray, List.set_cons_zero, List.set_cons_succ]
      conv => arg 5; whnf
      conv => arg 5; arg 1; whnf
      refine PB.pt_free (by rfl) (fun K hK => ?_)
      go_big_quiet_op
      first | (refine hK _ ?_; clear hK K) | (refine ⟨_, fun _ _ => rfl, hK _ ?_⟩; clear hK K)
      conv => arg 5; whnf
      conv => arg 5; arg 1; whnf
      refine PB.pt_free (by rfl) (fun K hK => ?_)
      go_big_quiet_op
      first | (refine hK _ ?_; clear hK K) | (refine ⟨_, fun _ _ => rfl, hK _ ?_⟩; clear hK K)
      generalize (if tc = kk then tA else Option.map (fun x => x.add kk) tA) = Tc at *
      conv => arg 5; whnf
      conv => arg 5; arg 1; whnf
      refine PB.pt_eff (by rfl) (fun K hK => ?_)
      refine wp_appAll (l := tl.drop kk) eStr (by rfl) hown5 (by rfl) (by rfl) (by have := HDK.out; omega) HCUT.out (fun _ => rfl) (by omega) hs5 (fun v6 w6 hown6 hg6 => ?_)
      obtain ⟨A6, c6, rfl, _⟩ := own_form hown6
      have hb56 : Below wr.heap.size w4.drew w6 := below_grown (Below.refl _ _) hown5 hg6 (Nat.le_refl _) hs5
      refine hK _ _ hb56 ?_
      clear hK K
      simp only [Act.put, List.setIfInBounds_toArray, List.set_cons_zero, List.set_cons_succ]
      have hb6 : Below wr.heap.size wr w6 := hb5.trans hb56
      have hnew : w6.ownsRow wr.heap.size 9 1 (vRow ⟨A6, ins kk tl, c6⟩) (ins kk tl).length ((ins kk tl).map vStr) := by
        show w6.ownsRow wr.heap.size 9 1 (.slice A6 (ins kk tl).length c6) (ins kk tl).length ((ins kk tl).map vStr)
        unfold ins
        rw [List.length_append, List.map_append]
        exact hown6
      have HO6 := HO.out.keep hb6
      have hB6 := (hb6.block SB hSl).trans hB
      have d6 := (hb6.cell (p := ⟨G2, j, none⟩) hGl).trans d1
      have d7 := (hb6.frozen (p := ⟨G2, j, none⟩) hGl).trans d3
      have hap := apart_new (W := wr) (x := vRow ⟨A6, ins kk tl, c6⟩) (G := wr.heap.size) HO.out (Nat.le_refl _) (fun k hk => (hnew.lt k hk).1)
      have hv6 : vRow ⟨A6, ins kk tl, c6⟩ = .slice A6 (min kk tl.length + 1 + (tl.length - kk)) c6 := by unfold vRow ins; rw [List.length_append, List.length_append, List.length_take, List.length_drop]; rfl
      have HV6 := Lib.hid hv6
      have hb7 := hb2.trans (hb6.mono hsz2)
      have hs6 := hb6.size
      clear hv6
      conv => arg 5; whnf
      conv => arg 5; arg 1; whnf
      refine PB.pt_free (by rfl) (fun K hK => ?_)
      go_big_quiet_op
      first | (refine hK _ ?_; clear hK K) | (refine ⟨_, fun _ _ => rfl, hK _ ?_⟩; clear hK K)
      conv => arg 5; whnf
      conv => arg 5; arg 1; whnf
      refine PB.pt_last (by rfl) (fun K hK => ?_)
      go_wp2
      refine PB.pt_nil ?_
      go_wp2
      go_roundw
      case rel =>
        have hgn : SB ≠ G2 := fun e => by
          obtain ⟨cur, hcur⟩ := own_kind HO6.top (k := G2) rfl
          rw [← e, hB6] at hcur
          injection hcur with hcur
          injection hcur with _ hcur
          exact absurd hcur (by decide)
        have hgb : wb.heap.size ≤ G2 := (HO6.top.lt G2 rfl).1
        have hset := HO6.setRow (i := j) (r := ⟨A6, ins kk tl, c6⟩) (own_base hnew hsz2) hap HLL.out
        rw [HV6.out] at hset
        exact ⟨j + 1, _, by omega, by go_num, (blkSet hgn).trans hB6, hset, HI.out.step (t' := ⟨A6, ins kk tl, c6⟩) hjr (by show ins kk tl = _; rw [HL0.out]), by simp; omega, hb7.setCell (p := ⟨G2, j, none⟩) hgb _⟩
      case measure => first | (simp [intOf]; done) | (simp [intOf]; omega)
    · obtain rfl : j = rn := by omega
      have hall := HI.out
      rw [← HRL.out] at hall
      obtain ⟨hkeys, htidy⟩ := hall.all HT.out hkc
      have HKEYS := Lib.hid hkeys
      have htm := htidy.mild (by have := HLL.out; omega) (by omega)
      have HTM := Lib.hid htm
      have HTW := Lib.hid htidy.1
      have HGB := Lib.hid (HO.out.grid' HLL.out htm)
      have HGA := Lib.hid (HGd.out.below hb2)
      obtain ⟨a0, a1, a2⟩ := sheet3 hAr
      clear hall hkeys htidy htm HI HO hlt
      have hc1 : ((cn : Int) + 1) = ((cn + 1 : Nat) : Int) := by omega
      have HC1 := Lib.hid hc1
      clear hc1
      go_wp2_with fail
      refine (alignSheets_rd wr B A2 rs ts j j d c2 nm nm cn ((cn : Int) + 1) cn (cn + 1) HRL.out HLL.out rfl HC1.out HGA.out HGB.out HMI.out HTM.out HT.out.1 HTW.out (by omega) (by omega)).mono ?_
      rintro e w8 ⟨Z1, f1, Z2, f2, rfl, hZ1, _, hb8⟩
      rw [HKEYS.out, rows_self _ (by rw [rowKeys_len]; have := HRL.out; omega), rowKeys_len, HRL.out] at hZ1
      have HZ1 := Lib.hid hZ1
      have hAr8 := (hb8.block SA (Array.getElem?_eq_some_iff.1 hAr).1).trans hAr
      have hbw8 := hbr.trans (hb8.mono hbr.size)
      clear hZ1 a0 a1 a2 s0 s1 s2 hAr
      go_wp2
      obtain ⟨W9, hW9⟩ : ∃ W9, W9 = w8.alloc (.cells #[.string nm, .slice Z1 j f1, .int .i64 j, .slice Z2 cn f2, .int .i64 ((cn : Int) + 1), .bool false] 42) := ⟨_, rfl⟩
      obtain ⟨SD, hSD⟩ : ∃ SD, w8.heap.size = SD := ⟨_, rfl⟩
      have e9 : Below w8.heap.size w8 W9 := by rw [hW9]; exact (Below.refl _ _).alloc (Nat.le_refl _) _
      have hC9 : W9.heap[SD]? = some (.cells #[.string nm, .slice Z1 j f1, .int .i64 j, .slice Z2 cn f2, .int .i64 ((cn : Int) + 1), .bool false] 42 (0, 0)) := by rw [hW9, ← hSD]; exact heap_alloc_new _ _
      have Y1 := Lib.hid ((HZ1.out.below e9).below (w' := W9.drew) (Below.refl _ _).drew)
      have hbw9 := (hbw8.trans (e9.mono hbw8.size)).drew
      have hDd : W9.drew.heap[SD]? = some (.cells #[.string nm, .slice Z1 j f1, .int .i64 j, .slice Z2 cn f2, .int .i64 ((cn : Int) + 1), .bool false] 42 (0, 0)) := hC9
      have hA9 : W9.drew.heap[SA]? = some (.cells #[.string nm, .int .i64 cn, .slice B j d] 24 (0, 0)) := ((e9.block SA (Array.getElem?_eq_some_iff.1 hAr8).1).trans hAr8)
      rw [← hW9, hSD]
      clear hW9 hSD e9 hC9 HZ1 hbw8 hbr hb8 hb2 HGA HGB HTM HTW hAr8
      refine wp_region_tree [] (.free 0 (.free 1 (.free 2 (.free 3 (.free 4 (.eff 5 (.eff 6 (.free 7 (.free 8 (.free 9 (.free 10 (.free 11 (.free 12 (.free 13 (.free 14 (.free 15 (.free 16 (.eff 17 (.free 18 (.free 19 (.nil))))))))))))))))))))) (by kernel_rfl) (by kernel_rfl) (fun _ _ d _ _ h => by cases d <;> exact h) ?_
      generalize W9.drew = wv at *
      obtain ⟨a0, a1, a2⟩ := sheet3 hA9
      obtain ⟨c0, c1, c2_, c3, c4, c5_, _⟩ := shift6 hDd
      have hCl : SD < wv.heap.size := (Array.getElem?_eq_some_iff.1 hDd).1
      have hAl9 : SA < wv.heap.size := (Array.getElem?_eq_some_iff.1 hA9).1
      conv => arg 4; whnf
      conv => arg 4; arg 1; whnf
      refine pt_free (by rfl) (fun K hK => ?_)
      go_big_quiet_op
      first | (refine hK _ ?_; clear hK K) | (refine ⟨_, fun _ _ => rfl, hK _ ?_⟩; clear hK K)
      conv => arg 4; whnf
      conv => arg 4; arg 1; whnf
      refine pt_loadC (p := ⟨SD, 1, none⟩) (fun W h => load_shift1 _ W _ _ _ _ _ _ (h.trans hDd)) hCl (by rfl) rfl rfl ?_
      simp only [Act.put, List.setIfInBounds_toArray, List.set_cons_zero, List.set_cons_succ]
      conv => arg 4; whnf
      conv => arg 4; arg 1; whnf
      refine pt_free (by rfl) (fun K hK => ?_)
      go_big_quiet_op
      first | (refine hK _ ?_; clear hK K) | (refine ⟨_, fun _ _ => rfl, hK _ ?_⟩; clear hK K)
      conv => arg 4; whnf
      conv => arg 4; arg 1; whnf
      refine pt_load (fun W h => load_rows _ _ W h) (p := ⟨SA, 2, none⟩) a2 hAl9 (by rfl) rfl rfl ?_
      simp only [Act.put, List.setIfInBounds_toArray, List.set_cons_zero, List.set_cons_succ]
      conv => arg 4; whnf
      conv => arg 4; arg 1; whnf
      refine pt_free (by rfl) (fun K hK => ?_)
      go_big_quiet_op
      first | (refine hK _ ?_; clear hK K) | (refine ⟨_, fun _ _ => rfl, hK _ ?_⟩; clear hK K)
      conv => arg 4; whnf
      conv => arg 4; arg 1; whnf
      refine pt_eff (by rfl) (fun K hK => ?_)
      go_wp2_with fail
      refine (same_rd _ j _ rfl (by omega)).mono ?_
      rintro e wn ⟨S1, g1, rfl, hS1, hbn⟩
      refine hK _ _ hbn ?_
      clear hK K
      have Y3 := Lib.hid (Y1.out.below hbn)
      have HS1 := Lib.hid hS1
      clear Y1 hS1
      have hbw9 := hbw9.trans (hbn.mono hbw9.size)
      have hA9 := (hbn.block SA hAl9).trans hA9
      have hDd := (hbn.block SD hCl).trans hDd
      clear a0 a1 a2 c0 c1 c2_ c3 c4 c5_ hCl hAl9 hbn
      generalize wn = wv at *
      obtain ⟨a0, a1, a2⟩ := sheet3 hA9
      obtain ⟨c0, c1, c2_, c3, c4, c5_, _⟩ := shift6 hDd
      have hCl : SD < wv.heap.size := (Array.getElem?_eq_some_iff.1 hDd).1
      have hAl9 : SA < wv.heap.size := (Array.getElem?_eq_some_iff.1 hA9).1
      conv => arg 4; whnf
      conv => arg 4; arg 1; whnf
      refine pt_eff (by rfl) (fun K hK => ?_)
      go_wp2_with fail
      refine (sameMap_any _ Z1 S1 (upto j) (upto j) j j f1 g1 j (upto_len j) (upto_len j) Y3.out HS1.out rfl).mono ?_
      rintro e wn ⟨rfl, hbn⟩
      refine hK _ _ hbn ?_
      clear hK K
      clear Y3 HS1
      have hbw9 := hbw9.trans (hbn.mono hbw9.size)
      have hA9 := (hbn.block SA hAl9).trans hA9
      have hDd := (hbn.block SD hCl).trans hDd
      clear a0 a1 a2 c0 c1 c2_ c3 c4 c5_ hCl hAl9 hbn
      generalize wn = wv at *
      obtain ⟨a0, a1, a2⟩ := sheet3 hA9
      obtain ⟨c0, c1, c2_, c3, c4, c5_, _⟩ := shift6 hDd
      have hCl : SD < wv.heap.size := (Array.getElem?_eq_some_iff.1 hDd).1
      have hAl9 : SA < wv.heap.size := (Array.getElem?_eq_some_iff.1 hA9).1
      conv => arg 4; whnf
      conv => arg 4; arg 1; whnf
      refine pt_free (by rfl) (fun K hK => ?_)
      go_big_quiet_op
      first | (refine hK _ ?_; clear hK K) | (refine ⟨_, fun _ _ => rfl, hK _ ?_⟩; clear hK K)
      conv => arg 4; whnf
      conv => arg 4; arg 1; whnf
      refine pt_free (by rfl) (fun K hK => ?_)
      go_big_quiet_op
      first | (refine hK _ ?_; clear hK K) | (refine ⟨_, fun _ _ => rfl, hK _ ?_⟩; clear hK K)
      conv => arg 4; whnf
      conv => arg 4; arg 1; whnf
      refine pt_free (by rfl) (fun K hK => ?_)
      go_big_quiet_op
      first | (refine hK _ ?_; clear hK K) | (refine ⟨_, fun _ _ => rfl, hK _ ?_⟩; clear hK K)
      conv => arg 4; whnf
      conv => arg 4; arg 1; whnf
      refine pt_load (fun W h => load_int _ _ W h) (p := ⟨SD, 4, none⟩) c4 hCl (by rfl) rfl rfl ?_
      simp only [Act.put, List.setIfInBounds_toArray, List.set_cons_zero, List.set_cons_succ]
      conv => arg 4; whnf
      conv => arg 4; arg 1; whnf
      refine pt_free (by rfl) (fun K hK => ?_)
      go_big_quiet_op
      first | (refine hK _ ?_; clear hK K) | (refine ⟨_, fun _ _ => rfl, hK _ ?_⟩; clear hK K)
      conv => arg 4; whnf
      conv => arg 4; arg 1; whnf
      refine pt_load (fun W h => load_int _ _ W h) (p := ⟨SA, 1, none⟩) a1 hAl9 (by rfl) rfl rfl ?_
      simp only [Act.put, List.setIfInBounds_toArray, List.set_cons_zero, List.set_cons_succ]
      conv => arg 4; whnf
      conv => arg 4; arg 1; whnf
      refine pt_free (by rfl) (fun K hK => ?_)
      go_big_quiet_op
      first | (refine hK _ ?_; clear hK K) | (refine ⟨_, fun _ _ => rfl, hK _ ?_⟩; clear hK K)
      conv => arg 4; whnf
      conv => arg 4; arg 1; whnf
      refine pt_free (by rfl) (fun K hK => ?_)
      go_big_quiet_op
      first | (refine hK _ ?_; clear hK K) | (refine ⟨_, fun _ _ => rfl, hK _ ?_⟩; clear hK K)
      conv => arg 4; whnf
      conv => arg 4; arg 1; whnf
      refine pt_free (by rfl) (fun K hK => ?_)
      go_big_quiet_op
      first | (refine hK _ ?_; clear hK K) | (refine ⟨_, fun _ _ => rfl, hK _ ?_⟩; clear hK K)
      conv => arg 4; whnf
      conv => arg 4; arg 1; whnf
      refine pt_free (by rfl) (fun K hK => ?_)
      go_big_quiet_op
      first | (refine hK _ ?_; clear hK K) | (refine ⟨_, fun _ _ => rfl, hK _ ?_⟩; clear hK K)
      conv => arg 4; whnf
      conv => arg 4; arg 1; whnf
      refine pt_eff (by rfl) (fun K hK => ?_)
      go_wp2_with fail
      refine (awake_any _).mono ?_
      rintro e wn ⟨rfl, hbn⟩
      refine hK _ _ hbn ?_
      clear hK K
      have hbw9 := hbw9.trans (hbn.mono hbw9.size)
      have hA9 := (hbn.block SA hAl9).trans hA9
      have hDd := (hbn.block SD hCl).trans hDd
      clear a0 a1 a2 c0 c1 c2_ c3 c4 c5_ hCl hAl9 hbn
      generalize wn = wv at *
      obtain ⟨a0, a1, a2⟩ := sheet3 hA9
      obtain ⟨c0, c1, c2_, c3, c4, c5_, _⟩ := shift6 hDd
      have hCl : SD < wv.heap.size := (Array.getElem?_eq_some_iff.1 hDd).1
      have hAl9 : SA < wv.heap.size := (Array.getElem?_eq_some_iff.1 hA9).1
      conv => arg 4; whnf
      conv => arg 4; arg 1; whnf
      refine pt_free (by rfl) (fun K hK => ?_)
      go_big_quiet_op
      first | (refine hK _ ?_; clear hK K) | (refine ⟨_, fun _ _ => rfl, hK _ ?_⟩; clear hK K)
      conv => arg 4; whnf
      conv => arg 4; arg 1; whnf
      refine pt_free (by rfl) (fun K hK => ?_)
      go_big_quiet_op
      first | (refine hK _ ?_; clear hK K) | (refine ⟨_, fun _ _ => rfl, hK _ ?_⟩; clear hK K)
      refine pt_nil ?_
      go_wp2
      go_ret
      exact ⟨rfl, hbw9⟩
end Go.Proofs.Ythoccmgfpjfkoaa
