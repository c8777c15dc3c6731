/- queue.Push. Written by ppushgen.py. -/
import Derived.Test.YtfhgnolfhiffbaaPHeap
namespace Go.Proofs.Ytfhgnolfhiffbaa
open Go.RowKit
/-- append of one value of several cells, as an operation -/
theorem wp_appN {P : Program} {T e : TypeId} {z : Value} {size bytes : Nat} {o : Oper} {a : Act} {K : Act → World → Prop} {Q : Exit → Act → World → Prop} {w0 : World} {s x : Operand} {v : Value} {cs : Array Value} {n base G : Nat} {xs : List Value} (E : EInfo P T e z size bytes)
    (ho : o.op = .call { callee := .builtin .append, args := #[s, x], argTypes := #[T, T] }) (hown : w0.ownsRow base e size v n xs) (hs : a.eval s = v)
    (hx : a.eval x = .slice (some ⟨G, 0, none⟩) 1 1) (hG : w0.heap[G]? = some (.cells cs e (0, 0))) (hcs : cs.size = size) (h1 : ∀ u ∈ cs.toList, u.oneCell' = true) (hbytes : (n + 1) * bytes ≤ 140737488355328) (hbase : base ≤ w0.heap.size)
    (h : ∀ v' w', w'.ownsRow base e size v' (n + 1) (xs ++ cs.toList) → w0.grownBy w' v.ownBlock → (v'.ownBlock = v.ownBlock ∨ v'.ownBlock = some w0.heap.size) → K (a.put o.dst v') w') :
    o.wp P a w0 K Q := by
  obtain ⟨ht, hinfo, hzs, hsz, hby0⟩ := E
  obtain ⟨i, hi, hz, hsize, hby⟩ := info_parts hinfo
  obtain ⟨v', w', hr, h2, h3, _, h5⟩ := run_append_own_at (P := P) w0 base T o.type e i z size bytes ht hi hz hsize hby hzs hsz v n xs hown ⟨G, 0, none⟩ 1 1 cs.toList (by simp [hcs]) (fun j u hu => by
      have e1 : (⟨G, 0, none⟩ : Addr).add j = ⟨G, j, none⟩ := by unfold Addr.add; split <;> simp_all
      rw [e1]
      simp only [World.cell?]
      rw [hG]
      simpa using hu) h1 (len_of_bytes hby0 hbytes) hbytes hbase
  unfold Oper.wp execOp
  simp only [ho, resolve, invoke, builtin, Sem.run_bind, Sem.run_pure, Result.andThen_ok, List.map_toArray, List.map_cons, List.map_nil, hs, hx, hr]
  exact h v' w' h2 h3 h5
theorem grown_block' {w w' : World} {base n size g : Nat} {e e' : TypeId} {v : Value} {xs : List Value} {cs : Array Value} {fr : Nat × Nat} (h : w.ownsRow base e size v n xs) (hg : w.heap[g]? = some (.cells cs e' fr)) (hne : e' ≠ e) (hw : w.grownBy w' v.ownBlock) : w'.heap[g]? = some (.cells cs e' fr) := by
  refine (hw.block g (Array.getElem?_eq_some_iff.1 hg).1 (fun e1 => ?_)).trans hg
  rcases h.2 with ⟨rfl, _⟩ | ⟨g2, cap, cur, rfl, hb, hh, _⟩
  · simp [Value.ownBlock] at e1
  · simp [Value.ownBlock] at e1
    subst e1
    rw [hg] at hh
    injection hh with hh
    injection hh with _ hh
    exact hne hh
theorem QM.put {Q : Nat} {w : World} {v : Value} (u : Value) : QM Q w v (w.setCell ⟨Q, 0, none⟩ u) v :=
  (QM.of_below (Below.refl _ _)).set (p := ⟨Q, 0, none⟩) (.inl rfl) u
theorem QM.of_grown {Q : Nat} {w w' : World} {v v' : Value} (h : w.grownBy w' v.ownBlock) (hv : v'.ownBlock = v.ownBlock ∨ v'.ownBlock = some w.heap.size) : QM Q w v w' v' :=
  ⟨fun _ _ => trivial, h.os, h.tape, h.output, h.size, fun k hk _ hn => h.block k hk (fun e => hn e.symm), hv.imp id (fun e => ⟨_, e, Nat.le_refl _⟩)⟩
theorem assertNode (a b : Value) (w : World) : (Instr.typeAssert (.iface 45 (.agg #[a, b])) 20 45 true).run Try.prog w = .ok (.tuple #[.agg #[a, b], .bool true]) w := by kernel_rfl
set_option maxRecDepth 100000 in
set_option maxHeartbeats 1000000 in
theorem qpush_any (w : World) (Q base : Nat) (v : Value) (L : List Nd) (h : QS w Q base v L) (s : ByteArray) (d : Int) (hL : L.length ≤ 1000000) (hbase : base ≤ w.heap.size) :
    Calls Try.prog 54 #[.pointer (some ⟨Q, 0, none⟩), .iface 45 (.agg #[.string s, .int .i64 d])] w (QPost Q base w v (L ++ [(s, d)]) (.tuple #[])) := by
  have hta := assertNode
  have hb2 : Below w.heap.size w (w.alloc (.cells #[.string s, .int .i64 d] 45)) := (Below.refl _ _).alloc (Nat.le_refl _) _
  have hX := heap_alloc_new w (.cells #[.string s, .int .i64 d] 45)
  go_enter Try.func54, Try.ntmps54
  go_wp2_with fail
  obtain ⟨X, hXe⟩ : ∃ X, w.heap.size = X := ⟨_, rfl⟩
  obtain ⟨W2, hW2⟩ : ∃ W2, W2 = w.alloc (.cells #[.string s, .int .i64 d] 45) := ⟨_, rfl⟩
  rw [← hW2] at hb2 hX ⊢
  rw [hXe] at hX ⊢
  have h2 := h.below hb2
  have hm2 : QM Q w v W2 v := QM.of_below hb2
  have hs2 := hb2.size
  clear hW2 hXe hb2 h
  refine wp_region_tree [6, 8] (.free 1 (.free 2 (.free 3 (.free 4 (.pure 0 (.eff 5 (.last 6 (.last 7 (.last 8 .nil))))))))) (by kernel_rfl) (by kernel_rfl) (fun _ _ d _ _ h => by cases d <;> exact h) ?_
  obtain ⟨W, hW⟩ : ∃ W, W = W2.drew := ⟨_, rfl⟩
  rw [← hW]
  have hm : QM Q w v W v := by rw [hW]; exact hm2.below (Below.refl _ _).drew
  have h : QS W Q base v L := by rw [hW]; exact ⟨h2.cell, h2.own⟩
  have hX : W.heap[X]? = some (.cells #[.string s, .int .i64 d] 45 (0, 0)) := by rw [hW]; exact hX
  have hsW : base ≤ W.heap.size := by rw [hW]; exact Nat.le_trans hbase hs2
  clear hW hm2 h2 hs2
  obtain ⟨A, c, rfl, hc⟩ := h.form
  have hq := h.q0
  have hQl := h.lt
  have hXl := (Array.getElem?_eq_some_iff.1 hX).1
  obtain ⟨x0, x1⟩ := two2 hX
  conv => arg 4; whnf
  conv => arg 4; arg 1; whnf
  refine pt_free (by rfl) (fun K hK => ?_)
  go_big_quiet_op
  first | (refine hK _ ?_; clear hK K) | (refine ⟨_, fun _ _ => rfl, hK _ ?_⟩; clear hK K)
  conv => arg 4; whnf
  conv => arg 4; arg 1; whnf
  refine pt_free (by rfl) (fun K hK => ?_)
  go_big_quiet_op
  first | (refine hK _ ?_; clear hK K) | (refine ⟨_, fun _ _ => rfl, hK _ ?_⟩; clear hK K)
  conv => arg 4; whnf
  conv => arg 4; arg 1; whnf
  refine pt_load (fun W h => load_q _ _ W h) (p := ⟨Q, 0, none⟩) hq hQl (by rfl) rfl rfl ?_
  simp only [Act.put, List.setIfInBounds_toArray, List.set_cons_zero, List.set_cons_succ]
  conv => arg 4; whnf
  conv => arg 4; arg 1; whnf
  refine pt_loadX (fun W' hW => load_nd X 0 _ _ W' ((hW.cell hXl).trans x0) ((hW.cell hXl).trans x1)) (by rfl) rfl rfl ?_
  simp only [Act.put, List.setIfInBounds_toArray, List.set_cons_zero, List.set_cons_succ]
  conv => arg 4; whnf
  conv => arg 4; arg 1; whnf
  refine pt_pure (by rfl) (fun K hK => ?_)
  go_big_quiet_op
  first | (refine hK _ ?_; clear hK K) | (refine ⟨_, fun _ _ => rfl, hK _ ?_⟩; clear hK K)
  clear x0 x1 hq
  conv => arg 4; whnf
  conv => arg 4; arg 1; whnf
  refine pt_eff (by rfl) (fun K hK => ?_)
  go_wp2
  have h1 : Ext W (W.alloc (.cells #[.string s, .int .i64 d] 45)) := (Below.refl _ _).alloc (Nat.le_refl _) _
  refine hK _ _ h1 ?_
  clear hK K hX
  have hG := heap_alloc_new W (.cells #[.string s, .int .i64 d] 45)
  have h5 := h.below h1
  have hm5 := hm.below h1
  have hs5 : base ≤ (W.alloc (.cells #[.string s, .int .i64 d] 45)).heap.size := Nat.le_trans hsW h1.size
  clear h hm hsW h1
  obtain ⟨G, hGe⟩ : ∃ G, W.heap.size = G := ⟨_, rfl⟩
  obtain ⟨W5, hW5⟩ : ∃ W5, W5 = W.alloc (.cells #[.string s, .int .i64 d] 45) := ⟨_, rfl⟩
  rw [← hW5] at hG h5 hm5 hs5 ⊢
  rw [hGe] at hG ⊢
  clear hW5 hGe
  conv => arg 4; whnf
  conv => arg 4; arg 1; whnf
  refine pt_last (by rfl) (fun K hK => ?_)
  refine wp_appN eNode (by rfl) h5.own (by rfl) (by rfl) hG rfl (by intro u hu; simp at hu; rcases hu with rfl | rfl <;> rfl) (by omega) hs5 (fun v1 w6 hown6 hg6 hk6 => ?_)
  obtain ⟨A6, c6, rfl, _⟩ := own_form hown6
  refine hK _ _ ?_
  clear hK K
  have hm6 := hm5.trans (QM.of_grown (Q := Q) hg6 hk6)
  have hq6 := grown_block' h5.own h5.cell (by decide) hg6
  clear hg6 hk6 hm5 hG h5
  conv => arg 4; whnf
  conv => arg 4; arg 1; whnf
  refine pt_last (by rfl) (fun K hK => ?_)
  go_wp2
  conv => arg 4; whnf
  conv => arg 4; arg 1; whnf
  refine pt_last (by rfl) (fun K hK => ?_)
  have hq0 : w6.cell? ⟨Q, 0, none⟩ = some (.slice A L.length c) := by simp [World.cell?, hq6]
  have hqf := froz hq6 0
  go_wp2
  refine pt_nil ?_
  go_wp2
  refine bodyPost_ret (v := .tuple #[]) (by simp [results, Try.f54]) rfl ?_
  refine ⟨_, rfl, QS.put hq6 (by rw [List.length_append, cells2_snoc]; exact hown6), ?_⟩
  exact hm6.trans (QM.put _)
end Go.Proofs.Ytfhgnolfhiffbaa
