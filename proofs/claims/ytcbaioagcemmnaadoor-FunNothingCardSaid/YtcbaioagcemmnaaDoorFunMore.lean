/- (fun.call).and, or; appends of several values. Written by funmoregen.py. -/
import Derived.Test.YtcbaioagcemmnaaDoorFunTruths
import Derived.Test.YtcbaioagcemmnaaDoorFunCount
import Derived.Test.YtcbaioagcemmnaaDoorFunBest
namespace Go.Proofs.YtcbaioagcemmnaaDoor
open Go.RowKit Go.Maps
theorem own_below {w w' : World} {base : Nat} {e : TypeId} {size n : Nat} {v : Value} {xs : List Value} (h : w.ownsRow base e size v n xs) (hb : Below w.heap.size w w') : w'.ownsRow base e size v n xs := by
  refine ⟨h.1, ?_⟩
  rcases h.2 with h | ⟨g, cap, cur, hv, hg, hh, r⟩
  · exact .inl h
  · exact .inr ⟨g, cap, cur, hv, hg, (hb.block g (Array.getElem?_eq_some_iff.1 hh).1).trans hh, r⟩
/-- 'out = append(out, u, v, ..)' where the elements are of several cells -/
theorem wpList_appNs {P : Program} {T e : TypeId} {z : Value} {size bytes : Nat} {ops : Array Oper} {rest : List Oper} {o : Oper} {a : Act} {Q : Exit → Act → World → Prop} {w0 : World} {s x : Operand} {v : Value} {cs : Array Value} {n base G m : Nat} {xs : List Value} (E : EInfo P T e z size bytes) (hgd : o.guard = none)
    (ho : o.op = .call { callee := .builtin .append, args := #[s, x], argTypes := #[T, T] }) (hown : w0.ownsRow base e size v n xs) (hs : a.eval s = v)
    (hx : a.eval x = .slice (some ⟨G, 0, none⟩) m m) (hG : w0.heap.size = G) (hcs : cs.size = m * size) (h1 : ∀ u ∈ cs.toList, u.oneCell' = true) (hbytes : (n + m) * bytes ≤ 140737488355328) (hbase : base ≤ w0.heap.size)
    (h : ∀ v' w', w'.ownsRow base e size v' (n + m) (xs ++ cs.toList) → w0.grownBy w' v.ownBlock → (v'.ownBlock = v.ownBlock ∨ v'.ownBlock = some (w0.heap.size + 1)) → wpList P ops Q rest (a.put o.dst v') w') :
    wpList P ops Q (o :: rest) a (w0.alloc (.cells cs e)) := by
  obtain ⟨ht, hinfo, hzs, hsz, hby0⟩ := E
  obtain ⟨i, hi, hz, hsize, hby⟩ := info_parts hinfo
  subst hG
  refine wpList_append_own_at (P := P) _ hgd s x T ho base e i z size bytes ht hi hz hsize hby hzs hsz v n xs hs (hown.alloc _) ⟨w0.heap.size, 0, none⟩ m m cs.toList hx (by simp [hcs]) (fun j u hu => ?_) h1
    (len_of_bytes hby0 hbytes) hbytes (by simp; omega) fun v' w' h2 h3 _ h5 => h v' w' h2 (grown_trans' (grown_alloc _ _ _) h3) (by simpa using h5)
  have e1 : (⟨w0.heap.size, 0, none⟩ : Addr).add j = ⟨w0.heap.size, j, none⟩ := by unfold Addr.add; split <;> simp_all
  rw [e1]
  have := heap_alloc_new w0 (.cells cs e)
  simp only [World.cell?]
  rw [this]
  simpa using hu
theorem cells3_at {w : World} {b o : Nat} {l : List V3} (h : ∀ i x, l[i]? = some x → w.cell? ⟨b, o + i * 3, none⟩ = some (.int .i64 x.1) ∧ w.cell? ⟨b, o + i * 3 + 1, none⟩ = some (.int .i64 x.2.1) ∧ w.cell? ⟨b, o + i * 3 + 2, none⟩ = some (.string x.2.2)) (j : Nat) (u : Value) (hu : (cells3 l)[j]? = some u) : w.cell? ((⟨b, o, none⟩ : Addr).add j) = some u := by
  have e1 : (⟨b, o, none⟩ : Addr).add j = ⟨b, o + j, none⟩ := by unfold Addr.add; split <;> simp_all
  rw [e1]
  have hj : j < 3 * l.length := by rw [← cells3_len]; exact (List.getElem?_eq_some_iff.1 hu).1
  have hi : j / 3 < l.length := by omega
  obtain ⟨y, hy⟩ : ∃ y, l[j / 3]? = some y := ⟨_, List.getElem?_eq_getElem hi⟩
  obtain ⟨g0, g1, g2⟩ := cells3_get l _ y hy
  obtain ⟨c0, c1, c2⟩ := h _ y hy
  have h3 : j % 3 = 0 ∨ j % 3 = 1 ∨ j % 3 = 2 := by omega
  rcases h3 with h3 | h3 | h3
  · have e2 : j = j / 3 * 3 := by omega
    rw [← e2] at g0
    rw [g0] at hu
    injection hu with hu
    rw [show o + j = o + j / 3 * 3 by omega, c0, hu]
  · have e2 : j = j / 3 * 3 + 1 := by omega
    rw [← e2] at g1
    rw [g1] at hu
    injection hu with hu
    rw [show o + j = o + j / 3 * 3 + 1 by omega, c1, hu]
  · have e2 : j = j / 3 * 3 + 2 := by omega
    rw [← e2] at g2
    rw [g2] at hu
    injection hu with hu
    rw [show o + j = o + j / 3 * 3 + 2 by omega, c2, hu]
theorem cells3_one (l : List V3) (u : Value) (h : u ∈ cells3 l) : u.oneCell' = true := by
  unfold cells3 at h
  obtain ⟨y, _, hy⟩ := List.mem_flatMap.1 h
  simp only [List.mem_cons, List.not_mem_nil, or_false] at hy
  rcases hy with rfl | rfl | rfl <;> rfl
/-- 'out = append(out, xs...)' where xs are values -/
theorem wpList_appV {P : Program} {T e : TypeId} {z : Value} {bytes : Nat} {ops : Array Oper} {rest : List Oper} {o : Oper} {a : Act} {Q : Exit → Act → World → Prop} {w0 : World} {s x : Operand} {v : Value} {n base c m : Nat} {xs : List Value} {A : Option Addr} {l : List V3} (E : EInfo P T e z 3 bytes) (hgd : o.guard = none)
    (ho : o.op = .call { callee := .builtin .append, args := #[s, x], argTypes := #[T, T] }) (hown : w0.ownsRow base e 3 v n xs) (hs : a.eval s = v)
    (hx : a.eval x = .slice A m c) (hm : m = l.length) (hl : AtV w0 A l) (hbytes : (n + l.length) * bytes ≤ 140737488355328) (hbase : base ≤ w0.heap.size)
    (h : ∀ v' w', w'.ownsRow base e 3 v' (n + l.length) (xs ++ cells3 l) → w0.grownBy w' v.ownBlock → (v'.ownBlock = v.ownBlock ∨ v'.ownBlock = some w0.heap.size) → wpList P ops Q rest (a.put o.dst v') w') :
    wpList P ops Q (o :: rest) a w0 := by
  obtain ⟨ht, hinfo, hzs, hsz, hby0⟩ := E
  obtain ⟨i, hi, hz, hsize, hby⟩ := info_parts hinfo
  subst hm
  by_cases hn : l = []
  · subst hn
    rcases A with _ | ad
    · refine wpList_plain hgd fun K hK => ?_
      unfold Oper.wp execOp
      have hrun : (Builtin.append_ #[T, T] o.type #[v, .slice none 0 c]).run P w0 = .ok v w0 := by
        rcases hown.2 with ⟨rfl, rfl⟩ | ⟨g, cap, cur, rfl, _, _, hnc, _⟩
        · simp [Builtin.append_, run_underlying ht, sizeOf, typeInfo, hi, Builtin.lenOf, Builtin.firstCells]
        · simp [Builtin.append_, run_underlying ht, sizeOf, typeInfo, hi, Builtin.lenOf, Builtin.firstCells, hnc, storeCells]
      simp only [List.length_nil] at hx
      simp only [ho, resolve, invoke, builtin, Sem.run_bind, Sem.run_pure, Result.andThen_ok, List.map_toArray, List.map_cons, List.map_nil, hs, hx, hrun]
      exact hK _ _ (h v w0 (by simpa [cells3] using hown) (World.grownBy.refl _ _) (.inl rfl))
    · exact wpList_append_own_at (P := P) _ hgd s x T ho base e i z 3 bytes ht hi hz hsize hby hzs hsz v n xs hs hown ad 0 c [] hx rfl (fun j u hu => by simp at hu) (fun y hy => by simp at hy)
        (len_of_bytes hby0 hbytes) hbytes hbase fun v' w' h2 h3 _ h5 => h v' w' (by simpa [cells3] using h2) h3 h5
  · obtain ⟨b, q, rfl, hc⟩ := hl.2 (List.length_pos_iff.2 hn)
    exact wpList_append_own_at (P := P) _ hgd s x T ho base e i z 3 bytes ht hi hz hsize hby hzs hsz v n xs hs hown ⟨b, q, none⟩ l.length c (cells3 l) hx (by rw [cells3_len]; omega) (cells3_at hc) (cells3_one l)
      (len_of_bytes hby0 hbytes) hbytes hbase fun v' w' h2 h3 _ h5 => h v' w' h2 h3 h5
set_option maxRecDepth 100000 in
set_option maxHeartbeats 4000000 in
theorem and_ok (w : World) (A : Option Addr) (args : List FArg) (c : Nat) (hA : AtA w A args) (hk : ∀ a ∈ args, ∀ v ∈ FArg.vs a, mayV v ∧ v.1 ≠ 4 ∧ (v.1 = 2 → a.rg = true)) (hmany : (args.flatMap FArg.vs).length ≤ 1000000)
    (y n : Nat) (hyy : yesN (args.flatMap FArg.vs) = y) (hnn : noN (args.flatMap FArg.vs) = n) (hy : 0 < y + n) :
    Calls Tryd.prog 21 #[.agg #[.slice A args.length c]] w fun e w' => e = .returned (.agg #[.int .i64 3, .int .i64 (bN ((n : Int) == 0)), .string ⟨#[]⟩]) ∧ Below w.heap.size w w' := by
  have hd : decide (0 < (y : Int) + n) = true := decide_eq_true (by omega)
  have C := Lib.hid (fun W (hW : AtA W A args) => truths_any W A args c hW hk hmany)
  rw [hyy, hnn, hd] at C
  clear hk hmany hyy hnn hd hy
  have hb0 := ((Below.refl w.heap.size w).alloc (Nat.le_refl _) (.cells #[.slice A args.length c] 44)).alloc (by simp) (.cells #[.int .i64 0, .int .i64 0, .string ⟨#[]⟩] 31)
  have hX : ((w.alloc (.cells #[.slice A args.length c] 44)).alloc (.cells #[.int .i64 0, .int .i64 0, .string ⟨#[]⟩] 31)).heap[w.heap.size + 1]? = some (.cells #[.int .i64 0, .int .i64 0, .string ⟨#[]⟩] 31 (0, 0)) := by rw [← World.size_alloc w (.cells #[.slice A args.length c] 44)]; exact heap_alloc_new _ _
  have hA0 := hA.below hb0
  obtain ⟨q, hq⟩ : ∃ q, bN ((n : Int) == 0) = q := ⟨_, rfl⟩
  go_enter Tryd.func21, Tryd.ntmps21
  go_wp2_with fail
  refine (C.out _ hA0).mono ?_
  rintro e w1 ⟨rfl, hb1⟩
  have hX1 := (hb1.block _ (Array.getElem?_eq_some_iff.1 hX).1).trans hX
  have hb2 := hb0.trans (hb1.mono hb0.size)
  obtain ⟨R, hR⟩ : ∃ R, w.heap.size + 1 = R := ⟨_, rfl⟩
  rw [hR] at hX1 ⊢
  have HR := Lib.hid (show w.heap.size ≤ R by omega)
  clear hR hb1 hX hA0 hb0 C
  go_wp2_with fail
  refine (bool_any _ ((n : Int) == 0)).mono ?_
  rintro e w5 ⟨rfl, hb5⟩
  have hX5 := (hb5.block R (Array.getElem?_eq_some_iff.1 hX1).1).trans hX1
  have hb6 := hb2.trans (hb5.mono hb2.size)
  clear hX1 hb2 hb5
  rw [hq]
  have HQ := Lib.hid hq
  clear hq
  obtain ⟨v0, v1, v2, z0, z1, z2⟩ := val3 hX5
  go_wp2
  have hz := val_store (x := .int .i64 3) (y := .int .i64 q) (z := .string ⟨#[]⟩) hX5
  obtain ⟨u0, u1, u2, _⟩ := val3 hz
  refine bodyPost_ret (v := .agg #[.int .i64 3, .int .i64 q, .string ⟨#[]⟩]) ?_ rfl ?_
  · simp [results, Tryd.f21, go_sem, u0, u1, u2]
  · exact ⟨by rw [HQ.out], ((hb6.setCell (p := ⟨R, 0, none⟩) HR.out _).setCell (p := ⟨R, 1, none⟩) HR.out _).setCell (p := ⟨R, 2, none⟩) HR.out _⟩
set_option maxRecDepth 100000 in
set_option maxHeartbeats 4000000 in
theorem and_none (w : World) (A : Option Addr) (args : List FArg) (c : Nat) (hA : AtA w A args) (hk : ∀ a ∈ args, ∀ v ∈ FArg.vs a, mayV v ∧ v.1 ≠ 4 ∧ (v.1 = 2 → a.rg = true)) (hmany : (args.flatMap FArg.vs).length ≤ 1000000)
    (y n : Nat) (hyy : yesN (args.flatMap FArg.vs) = y) (hnn : noN (args.flatMap FArg.vs) = n) (hy : y + n = 0) :
    Calls Tryd.prog 21 #[.agg #[.slice A args.length c]] w fun e w' => e = .returned (.agg #[.int .i64 4, .int .i64 1, .string ⟨#[]⟩]) ∧ Below w.heap.size w w' := by
  have hd : decide (0 < (y : Int) + n) = false := decide_eq_false (by omega)
  have C := Lib.hid (fun W (hW : AtA W A args) => truths_any W A args c hW hk hmany)
  rw [hyy, hnn, hd] at C
  clear hk hmany hyy hnn hd hy
  have hb0 := ((Below.refl w.heap.size w).alloc (Nat.le_refl _) (.cells #[.slice A args.length c] 44)).alloc (by simp) (.cells #[.int .i64 0, .int .i64 0, .string ⟨#[]⟩] 31)
  have hX : ((w.alloc (.cells #[.slice A args.length c] 44)).alloc (.cells #[.int .i64 0, .int .i64 0, .string ⟨#[]⟩] 31)).heap[w.heap.size + 1]? = some (.cells #[.int .i64 0, .int .i64 0, .string ⟨#[]⟩] 31 (0, 0)) := by rw [← World.size_alloc w (.cells #[.slice A args.length c] 44)]; exact heap_alloc_new _ _
  have hA0 := hA.below hb0
  go_enter Tryd.func21, Tryd.ntmps21
  go_wp2_with fail
  refine (C.out _ hA0).mono ?_
  rintro e w1 ⟨rfl, hb1⟩
  have hX1 := (hb1.block _ (Array.getElem?_eq_some_iff.1 hX).1).trans hX
  have hb2 := hb0.trans (hb1.mono hb0.size)
  obtain ⟨R, hR⟩ : ∃ R, w.heap.size + 1 = R := ⟨_, rfl⟩
  rw [hR] at hX1 ⊢
  have HR := Lib.hid (show w.heap.size ≤ R by omega)
  clear hR hb1 hX hA0 hb0 C
  go_wp2_with fail
  refine (err_any _ 1).mono ?_
  rintro e w5 ⟨rfl, hb5⟩
  have hX5 := (hb5.block R (Array.getElem?_eq_some_iff.1 hX1).1).trans hX1
  have hb6 := hb2.trans (hb5.mono hb2.size)
  clear hX1 hb2 hb5
  obtain ⟨v0, v1, v2, z0, z1, z2⟩ := val3 hX5
  go_wp2
  have hz := val_store (x := .int .i64 4) (y := .int .i64 1) (z := .string ⟨#[]⟩) hX5
  obtain ⟨u0, u1, u2, _⟩ := val3 hz
  refine bodyPost_ret (v := .agg #[.int .i64 4, .int .i64 1, .string ⟨#[]⟩]) ?_ rfl ?_
  · simp [results, Tryd.f21, go_sem, u0, u1, u2]
  · exact ⟨rfl, ((hb6.setCell (p := ⟨R, 0, none⟩) HR.out _).setCell (p := ⟨R, 1, none⟩) HR.out _).setCell (p := ⟨R, 2, none⟩) HR.out _⟩
set_option maxRecDepth 100000 in
set_option maxHeartbeats 4000000 in
theorem or_ok (w : World) (A : Option Addr) (args : List FArg) (c : Nat) (hA : AtA w A args) (hk : ∀ a ∈ args, ∀ v ∈ FArg.vs a, mayV v ∧ v.1 ≠ 4 ∧ (v.1 = 2 → a.rg = true)) (hmany : (args.flatMap FArg.vs).length ≤ 1000000)
    (y n : Nat) (hyy : yesN (args.flatMap FArg.vs) = y) (hnn : noN (args.flatMap FArg.vs) = n) (hy : 0 < y + n) :
    Calls Tryd.prog 22 #[.agg #[.slice A args.length c]] w fun e w' => e = .returned (.agg #[.int .i64 3, .int .i64 (bN (decide (0 < y))), .string ⟨#[]⟩]) ∧ Below w.heap.size w w' := by
  have hd : decide (0 < (y : Int) + n) = true := decide_eq_true (by omega)
  have C := Lib.hid (fun W (hW : AtA W A args) => truths_any W A args c hW hk hmany)
  rw [hyy, hnn, hd] at C
  clear hk hmany hyy hnn hd hy
  have hb0 := ((Below.refl w.heap.size w).alloc (Nat.le_refl _) (.cells #[.slice A args.length c] 44)).alloc (by simp) (.cells #[.int .i64 0, .int .i64 0, .string ⟨#[]⟩] 31)
  have hX : ((w.alloc (.cells #[.slice A args.length c] 44)).alloc (.cells #[.int .i64 0, .int .i64 0, .string ⟨#[]⟩] 31)).heap[w.heap.size + 1]? = some (.cells #[.int .i64 0, .int .i64 0, .string ⟨#[]⟩] 31 (0, 0)) := by rw [← World.size_alloc w (.cells #[.slice A args.length c] 44)]; exact heap_alloc_new _ _
  have hA0 := hA.below hb0
  obtain ⟨q, hq⟩ : ∃ q, bN (decide (0 < y)) = q := ⟨_, rfl⟩
  go_enter Tryd.func22, Tryd.ntmps22
  go_wp2_with fail
  refine (C.out _ hA0).mono ?_
  rintro e w1 ⟨rfl, hb1⟩
  have hX1 := (hb1.block _ (Array.getElem?_eq_some_iff.1 hX).1).trans hX
  have hb2 := hb0.trans (hb1.mono hb0.size)
  obtain ⟨R, hR⟩ : ∃ R, w.heap.size + 1 = R := ⟨_, rfl⟩
  rw [hR] at hX1 ⊢
  have HR := Lib.hid (show w.heap.size ≤ R by omega)
  clear hR hb1 hX hA0 hb0 C
  go_wp2_with fail
  refine (bool_any _ (decide (0 < y))).mono ?_
  rintro e w5 ⟨rfl, hb5⟩
  have hX5 := (hb5.block R (Array.getElem?_eq_some_iff.1 hX1).1).trans hX1
  have hb6 := hb2.trans (hb5.mono hb2.size)
  clear hX1 hb2 hb5
  rw [hq]
  have HQ := Lib.hid hq
  clear hq
  obtain ⟨v0, v1, v2, z0, z1, z2⟩ := val3 hX5
  go_wp2
  have hz := val_store (x := .int .i64 3) (y := .int .i64 q) (z := .string ⟨#[]⟩) hX5
  obtain ⟨u0, u1, u2, _⟩ := val3 hz
  refine bodyPost_ret (v := .agg #[.int .i64 3, .int .i64 q, .string ⟨#[]⟩]) ?_ rfl ?_
  · simp [results, Tryd.f22, go_sem, u0, u1, u2]
  · exact ⟨by rw [HQ.out], ((hb6.setCell (p := ⟨R, 0, none⟩) HR.out _).setCell (p := ⟨R, 1, none⟩) HR.out _).setCell (p := ⟨R, 2, none⟩) HR.out _⟩
set_option maxRecDepth 100000 in
set_option maxHeartbeats 4000000 in
theorem or_none (w : World) (A : Option Addr) (args : List FArg) (c : Nat) (hA : AtA w A args) (hk : ∀ a ∈ args, ∀ v ∈ FArg.vs a, mayV v ∧ v.1 ≠ 4 ∧ (v.1 = 2 → a.rg = true)) (hmany : (args.flatMap FArg.vs).length ≤ 1000000)
    (y n : Nat) (hyy : yesN (args.flatMap FArg.vs) = y) (hnn : noN (args.flatMap FArg.vs) = n) (hy : y + n = 0) :
    Calls Tryd.prog 22 #[.agg #[.slice A args.length c]] w fun e w' => e = .returned (.agg #[.int .i64 4, .int .i64 1, .string ⟨#[]⟩]) ∧ Below w.heap.size w w' := by
  have hd : decide (0 < (y : Int) + n) = false := decide_eq_false (by omega)
  have C := Lib.hid (fun W (hW : AtA W A args) => truths_any W A args c hW hk hmany)
  rw [hyy, hnn, hd] at C
  clear hk hmany hyy hnn hd hy
  have hb0 := ((Below.refl w.heap.size w).alloc (Nat.le_refl _) (.cells #[.slice A args.length c] 44)).alloc (by simp) (.cells #[.int .i64 0, .int .i64 0, .string ⟨#[]⟩] 31)
  have hX : ((w.alloc (.cells #[.slice A args.length c] 44)).alloc (.cells #[.int .i64 0, .int .i64 0, .string ⟨#[]⟩] 31)).heap[w.heap.size + 1]? = some (.cells #[.int .i64 0, .int .i64 0, .string ⟨#[]⟩] 31 (0, 0)) := by rw [← World.size_alloc w (.cells #[.slice A args.length c] 44)]; exact heap_alloc_new _ _
  have hA0 := hA.below hb0
  go_enter Tryd.func22, Tryd.ntmps22
  go_wp2_with fail
  refine (C.out _ hA0).mono ?_
  rintro e w1 ⟨rfl, hb1⟩
  have hX1 := (hb1.block _ (Array.getElem?_eq_some_iff.1 hX).1).trans hX
  have hb2 := hb0.trans (hb1.mono hb0.size)
  obtain ⟨R, hR⟩ : ∃ R, w.heap.size + 1 = R := ⟨_, rfl⟩
  rw [hR] at hX1 ⊢
  have HR := Lib.hid (show w.heap.size ≤ R by omega)
  clear hR hb1 hX hA0 hb0 C
  go_wp2_with fail
  refine (err_any _ 1).mono ?_
  rintro e w5 ⟨rfl, hb5⟩
  have hX5 := (hb5.block R (Array.getElem?_eq_some_iff.1 hX1).1).trans hX1
  have hb6 := hb2.trans (hb5.mono hb2.size)
  clear hX1 hb2 hb5
  obtain ⟨v0, v1, v2, z0, z1, z2⟩ := val3 hX5
  go_wp2
  have hz := val_store (x := .int .i64 4) (y := .int .i64 1) (z := .string ⟨#[]⟩) hX5
  obtain ⟨u0, u1, u2, _⟩ := val3 hz
  refine bodyPost_ret (v := .agg #[.int .i64 4, .int .i64 1, .string ⟨#[]⟩]) ?_ rfl ?_
  · simp [results, Tryd.f22, go_sem, u0, u1, u2]
  · exact ⟨rfl, ((hb6.setCell (p := ⟨R, 0, none⟩) HR.out _).setCell (p := ⟨R, 1, none⟩) HR.out _).setCell (p := ⟨R, 2, none⟩) HR.out _⟩
end Go.Proofs.YtcbaioagcemmnaaDoor
