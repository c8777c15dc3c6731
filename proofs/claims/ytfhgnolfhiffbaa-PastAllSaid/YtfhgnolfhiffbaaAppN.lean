/- Append of a value of several cells onto a row of the call's own; what else lies in memory stays. -/
import Derived.Test.YtfhgnolfhiffbaaMem
import Derived.OwnWalk
namespace Go.Proofs.Ytfhgnolfhiffbaa
open Go.RowKit
/-- 'out = append(out, u)' where u is of several cells -/
theorem wpList_appN {P : Program} {T e : TypeId} {z : Value} {size bytes : Nat} {ops : Array Oper} {rest : List Oper} {o : Oper} {a : Act} {Q : Exit → Act → World → Prop} {w0 : World} {s x : Operand} {v : Value} {cs : Array Value} {n base G : Nat} {xs : List Value} (E : EInfo P T e z size bytes) (hgd : o.guard = none)
    (ho : o.op = .call { callee := .builtin .append, args := #[s, x], argTypes := #[T, T] }) (hown : w0.ownsRow base e size v n xs) (hs : a.eval s = v)
    (hx : a.eval x = .slice (some ⟨G, 0, none⟩) 1 1) (hG : w0.heap.size = G) (hcs : cs.size = size) (h1 : ∀ u ∈ cs.toList, u.oneCell' = true) (hbytes : (n + 1) * bytes ≤ 140737488355328) (hbase : base ≤ w0.heap.size)
    (h : ∀ v' w', w'.ownsRow base e size v' (n + 1) (xs ++ cs.toList) → w0.grownBy w' v.ownBlock → (v'.ownBlock = v.ownBlock ∨ v'.ownBlock = some (w0.heap.size + 1)) → wpList P ops Q rest (a.put o.dst v') w') :
    wpList P ops Q (o :: rest) a (w0.alloc (.cells cs e)) := by
  obtain ⟨ht, hinfo, hzs, hsz, hby0⟩ := E
  obtain ⟨i, hi, hz, hsize, hby⟩ := info_parts hinfo
  subst hG
  refine wpList_append_own_at (P := P) _ hgd s x T ho base e i z size bytes ht hi hz hsize hby hzs hsz v n xs hs (hown.alloc _) ⟨w0.heap.size, 0, none⟩ 1 1 cs.toList hx (by simp [hcs]) (fun j u hu => ?_) h1
    (len_of_bytes hby0 hbytes) hbytes (by simp; omega) fun v' w' h2 h3 _ h5 => h v' w' h2 (grown_trans' (grown_alloc _ _ _) h3) (by simpa using h5)
  have e1 : (⟨w0.heap.size, 0, none⟩ : Addr).add j = ⟨w0.heap.size, j, none⟩ := by unfold Addr.add; split <;> simp_all
  rw [e1]
  have := heap_alloc_new w0 (.cells cs e)
  simp only [World.cell?]
  rw [this]
  simpa using hu
theorem own_kind {w : World} {base n size : Nat} {e : TypeId} {v : Value} {xs : List Value} (h : w.ownsRow base e size v n xs) {k : Nat} (hk : v.ownBlock = some k) : ∃ cur, w.heap[k]? = some (.cells cur e (0, 0)) := by
  rcases h.2 with ⟨rfl, _⟩ | ⟨g, cap, cur, rfl, hb, hg, _⟩
  · simp [Value.ownBlock] at hk
  · simp [Value.ownBlock] at hk; subst hk; exact ⟨cur, hg⟩
theorem own_ne_kind {w : World} {base n size g : Nat} {e e' : TypeId} {v : Value} {xs : List Value} {cs : Array Value} {fr : Nat × Nat} (h : w.ownsRow base e size v n xs) (hg : w.heap[g]? = some (.cells cs e' fr)) (hne : e' ≠ e) : v.ownBlock ≠ some g := fun hk => by
  obtain ⟨cur, hc⟩ := own_kind h hk
  rw [hg] at hc
  injection hc with hc
  injection hc with _ hc
  exact hne hc
theorem grown_block {w w' : World} {base n size g : Nat} {e e' : TypeId} {v : Value} {xs : List Value} {cs : Array Value} {fr : Nat × Nat} (h : w.ownsRow base e size v n xs) (hg : w.heap[g]? = some (.cells cs e' fr)) (hne : e' ≠ e) (hw : w.grownBy w' v.ownBlock) : w'.heap[g]? = some (.cells cs e' fr) :=
  (hw.block g (Array.getElem?_eq_some_iff.1 hg).1 (fun e => own_ne_kind h hg hne e.symm)).trans hg
end Go.Proofs.Ytfhgnolfhiffbaa
