/- AlignGone's appends. -/
import Derived.Test.YthoccmgfpjfkoaaGoneAwake
namespace Go.Proofs.Ythoccmgfpjfkoaa
open Go.RowKit

/-- 'append' as one operation -/
theorem wp_app1 {P : Program} {T e : TypeId} {z : Value} {bytes : Nat} {o : Oper} {a : Act} {K : Act → World → Prop} {Q : Exit → Act → World → Prop} {w0 : World} {s x : Operand} {v u : Value} {n base G : Nat} {xs : List Value} (E : EInfo P T e z 1 bytes)
    (ho : o.op = .call { callee := .builtin .append, args := #[s, x], argTypes := #[T, T] }) (hown : w0.ownsRow base e 1 v n xs) (hs : a.eval s = v)
    (hx : a.eval x = .slice (some ⟨G, 0, none⟩) 1 1) (hG : w0.heap.size = G) (h1 : u.oneCell' = true) (hbytes : (n + 1) * bytes ≤ 140737488355328) (hbase : base ≤ w0.heap.size)
    (h : ∀ v' w', w'.ownsRow base e 1 v' (n + 1) (xs ++ [u]) → w0.grownBy w' v.ownBlock → (v'.ownBlock = v.ownBlock ∨ v'.ownBlock = some (w0.heap.size + 1)) → K (a.put o.dst v') w') :
    o.wp P a (w0.alloc (.cells #[u] e)) K Q := by
  obtain ⟨ht, hinfo, hzs, hsz, hby0⟩ := E
  obtain ⟨i, hi, hz, hsize, hby⟩ := info_parts hinfo
  subst hG
  obtain ⟨v', w', hr, h2, h3, _, h5⟩ := run_append_own_at (P := P) (w0.alloc (.cells #[u] e)) base T o.type e i z 1 bytes ht hi hz hsize hby hzs hsz v n xs (hown.alloc _) ⟨w0.heap.size, 0, none⟩ 1 1 [u] rfl (cell_one_new _ _ _) (fun y hy => by simp at hy; subst hy; exact h1)
    (len_of_bytes hby0 hbytes) hbytes (by simp; omega)
  unfold Oper.wp execOp
  simp only [ho, resolve, invoke, builtin, Sem.run_bind, Sem.run_pure, Result.andThen_ok, List.map_toArray, List.map_cons, List.map_nil, hs, hx, hr]
  exact (h v' w' h2 (grown_trans' (grown_alloc _ _ _) h3) (by simpa using h5))

theorem load_rows (p : Addr) (v : Value) (W : World) (h : W.cell? p = some v) : (Instr.loadAt 22 (.pointer (some p))).run Try.prog W = .ok v W := by simp [go_sem, h]
theorem sheet_facts {w1 : World} {g : Nat} {a b c : Value} {t : TypeId} (z : w1.heap[g]? = some (.cells #[a, b, c] t (0, 0))) : w1.cell? ⟨g, 2, none⟩ = some c ∧ w1.frozen? ⟨g, 2, none⟩ = false :=
  ⟨by simp [World.cell?, z], by simp [World.frozen?, z]⟩

variable {w wr w1 : World} {SA SB : Nat} {va vb vw : Value} {ra rb : List SRow} {ws : List Int}
theorem rowOk_new (wr : World) (s : ByteArray) : RowOk (wr.alloc (.cells #[.string s] 9)) ⟨some ⟨wr.heap.size, 0, none⟩, [s], 1⟩ := ⟨wr.heap.size, s, rfl, heap_alloc_new wr _⟩
theorem GSt.lay (h : GSt w SA SB va vb vw ra rb ws wr) (o : Obj) : GSt w SA SB va vb vw ra rb ws (wr.alloc o) := h.keep ((Below.refl _ _).alloc (Nat.le_refl _) _)
theorem GSt.drew (h : GSt w SA SB va vb vw ra rb ws wr) : GSt w SA SB va vb vw ra rb ws wr.drew := h.keep (Below.refl _ _).drew
theorem GSt.appA1 {va' : Value} {s : ByteArray} (h : GSt w SA SB va vb vw ra rb ws wr) (hown : w1.ownsRow w.heap.size 26 1 va' (ra.length + 1) (ra.map vRow ++ [.slice (some ⟨wr.heap.size, 0, none⟩) 1 1]))
    (hg : (wr.alloc (.cells #[.string s] 9)).grownBy w1 va.ownBlock) (hk : va'.ownBlock = va.ownBlock ∨ va'.ownBlock = some ((wr.alloc (.cells #[.string s] 9)).heap.size + 1)) :
    GSt w SA SB va' vb vw (ra ++ [⟨some ⟨wr.heap.size, 0, none⟩, [s], 1⟩]) rb ws (w1.setCell ⟨SA, 2, none⟩ va') ∧ w1.cell? ⟨SA, 2, none⟩ = some va ∧ w1.frozen? ⟨SA, 2, none⟩ = false :=
  ⟨(h.lay _).appendA (rowOk_new wr s) hown hg hk (Nat.le_succ _), sheet_facts (grown_block (h.lay _).oa (h.lay _).sa (by decide) hg)⟩
theorem GSt.appB1 {vb' : Value} {s : ByteArray} (h : GSt w SA SB va vb vw ra rb ws wr) (hown : w1.ownsRow w.heap.size 26 1 vb' (rb.length + 1) (rb.map vRow ++ [.slice (some ⟨wr.heap.size, 0, none⟩) 1 1]))
    (hg : (wr.alloc (.cells #[.string s] 9)).grownBy w1 vb.ownBlock) (hk : vb'.ownBlock = vb.ownBlock ∨ vb'.ownBlock = some ((wr.alloc (.cells #[.string s] 9)).heap.size + 1)) :
    GSt w SA SB va vb' vw ra (rb ++ [⟨some ⟨wr.heap.size, 0, none⟩, [s], 1⟩]) ws (w1.setCell ⟨SB, 2, none⟩ vb') ∧ w1.cell? ⟨SB, 2, none⟩ = some vb ∧ w1.frozen? ⟨SB, 2, none⟩ = false :=
  ⟨(h.lay _).appendB (rowOk_new wr s) hown hg hk (Nat.le_succ _), sheet_facts (grown_block (h.lay _).ob (h.lay _).sb (by decide) hg)⟩
theorem GSt.facts (h : GSt w SA SB va vb vw ra rb ws wr) : wr.cell? ⟨SA, 2, none⟩ = some va ∧ wr.frozen? ⟨SA, 2, none⟩ = false ∧ wr.cell? ⟨SB, 2, none⟩ = some vb ∧ wr.frozen? ⟨SB, 2, none⟩ = false ∧ SA < wr.heap.size ∧ SB < wr.heap.size := by
  obtain ⟨a, b⟩ := sheet_facts h.sa
  obtain ⟨c, d⟩ := sheet_facts h.sb
  exact ⟨a, b, c, d, (Array.getElem?_eq_some_iff.1 h.sa).1, (Array.getElem?_eq_some_iff.1 h.sb).1⟩

theorem gone_len (k i j put : Nat) : ∀ n, (gone k i j put n).1.length ≤ 2 * n ∧ (gone k i j put n).2.length ≤ n
  | 0 => by simp [gone]
  | n + 1 => by
    have ih := gone_len k i j put n
    rw [gone_succ]
    unfold goneStep
    have h1 : ∀ (p : Prop) [Decidable p], (if p then [1000] else ([] : List Nat)).length ≤ 1 := fun p _ => by split <;> simp
    have := h1 (n = put ∧ (put < i ∨ j < put))
    dsimp only
    split
    · simp only [List.length_append]; omega
    · split
      · simp only [List.length_append, List.length_singleton]; omega
      · simp only [List.length_append, List.length_singleton]; omega
theorem rowText_of {r : Nat} (h : r < 12) : rowText r = digits (100 + r) := by unfold rowText; rw [if_neg (by omega)]
theorem digits_rd (w : World) (n : Nat) (z : Int) (hz : z = n) (hn : n < 1000) : Calls Try.prog 8 #[.int .i64 z] w fun e w' => e = .returned (.string (digits n)) ∧ Below w.heap.size w w' := by
  subst hz; exact digits_any w n (by omega)
end Go.Proofs.Ythoccmgfpjfkoaa
