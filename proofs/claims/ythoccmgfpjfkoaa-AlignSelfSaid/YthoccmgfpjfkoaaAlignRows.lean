/- The walk of align.Rows. Written by rowsgen.py. -/
import Derived.Test.YthoccmgfpjfkoaaAlignPaired
import Derived.Test.YthoccmgfpjfkoaaAlignKeys
namespace Go.Proofs.Ythoccmgfpjfkoaa
open Go.RowKit

theorem load_sheet (k : Nat) (W : World) (nm : ByteArray) (cols : Int) (A : Option Addr) (n c : Nat) (h : W.heap[k]? = some (.cells #[.string nm, .int .i64 cols, .slice A n c] 24 (0, 0))) :
    (Instr.loadAt 24 (.pointer (some ⟨k, 0, none⟩))).run Try.prog W = .ok (.agg #[.string nm, .int .i64 cols, .slice A n c]) W := by
  have h0 : W.cell? ⟨k, 0, none⟩ = some (.string nm) := by simp [World.cell?, h]
  have h1 : W.cell? ⟨k, 1, none⟩ = some (.int .i64 cols) := by simp [World.cell?, h]
  have h2 : W.cell? ⟨k, 2, none⟩ = some (.slice A n c) := by simp [World.cell?, h]
  simp [go_sem, h0, h1, h2]
theorem pt_loadB {P : Program} {ops : Array Oper} {Q : Exit → Act → World → Prop} {a : Act} {w : World} {o : Oper} {t : PTo} {T : TypeId} {x : Operand} {k : Nat} {v : Value} (hrun : ∀ W, W.heap[k]? = w.heap[k]? → (Instr.loadAt T (.pointer (some ⟨k, 0, none⟩))).run P W = .ok v W) (hlt : k < w.heap.size)
    (hw : Region.wanted o (yielded ops a.tmps) = true) (ho : o.op = .load T x) (hx : a.eval x = .pointer (some ⟨k, 0, none⟩)) (h2 : PlannedT P ops Q t (a.put o.dst v) w) : PlannedT P ops Q (.free o t) a w := by
  refine pt_at hw (fun W hW => ?_) h2
  unfold execOp
  rw [ho]
  simp only [hx, Sem.run_bind, hrun W (hW.block k hlt), Result.andThen_ok]
  rfl

theorem keys_rd (w : World) (A : Option Addr) (rs : List SRow) (n c : Nat) (name : ByteArray) (cols : Int) (hn : rs.length = n) (hA : Grid w A rs) (hm : Mild rs) :
    Calls Try.prog 30 #[.agg #[.string name, .int .i64 cols, .slice A n c], .func (.func 14) #[] #[]] w fun e w' => ∃ X c, e = .returned (.slice X n c) ∧ At1 vStr w' X (rowKeys rs) ∧ Below w.heap.size w w' := by
  subst hn
  refine (keys_any w A rs c name cols hA hm).mono ?_
  rintro e w' ⟨v, rfl, h1, h2⟩
  obtain ⟨X, c, rfl, h3, _⟩ := own_reads h1 (by rw [rowKeys_len]; have := hm.1; omega)
  rw [rowKeys_len]
  exact ⟨X, c, rfl, h3, h2⟩
theorem paired_rd (w : World) (A B : Option Addr) (a b : List ByteArray) (n m ca cb : Nat) (hn : a.length = n) (hm : b.length = m) (hA : At1 vStr w A a) (hB : At1 vStr w B b) (ha : a.length ≤ 1000) (hb : b.length ≤ 1000) :
    Calls Try.prog 29 #[.slice A n ca, .slice B m cb] w fun e w' => ∃ Z c, e = .returned (.agg #[.slice Z n c, .int .i64 m]) ∧ w'.ownsRow w.heap.size 3 1 (.slice Z n c) n ((rowsOf a b).map vInt) ∧ Below w.heap.size w w' := by
  subst hn hm
  refine (paired_any w A B a b ca cb hA hB ha hb).mono ?_
  rintro e w' ⟨v, rfl, h1, h2⟩
  obtain ⟨X, c, rfl, _⟩ := own_form h1
  exact ⟨X, c, rfl, h1, h2⟩

set_option maxRecDepth 100000 in
set_option maxHeartbeats 2000000 in
theorem alignRows_any (w : World) (A B : Option Addr) (rs ts : List SRow) (n m c d : Nat) (name name2 : ByteArray) (cols cols2 : Int) (hn : rs.length = n) (hm : ts.length = m) (hA : Grid w A rs) (hB : Grid w B ts) (hma : Mild rs) (hmb : Mild ts) :
    Calls Try.prog 10 #[.agg #[.string name, .int .i64 cols, .slice A n c], .agg #[.string name2, .int .i64 cols2, .slice B m d]] w fun e w' =>
      ∃ Z c, e = .returned (.agg #[.slice Z n c, .int .i64 m]) ∧ w'.ownsRow w.heap.size 3 1 (.slice Z n c) n ((rowsOf (rowKeys rs) (rowKeys ts)).map vInt) ∧ Below w.heap.size w w' := by
  have HA := Lib.hid hA
  have HB := Lib.hid hB
  clear hA hB
  go_enter Try.func10, Try.ntmps10
  go_wp2
  obtain ⟨W, hW⟩ : ∃ W, W = ((w.alloc (.cells #[.string name, .int .i64 cols, .slice A n c] 24)).alloc (.cells #[.string name2, .int .i64 cols2, .slice B m d] 24)).alloc (.cells #[.slice none 0 0, .int .i64 0] 30) := ⟨_, rfl⟩
  have hs1 := heap_alloc_new w (.cells #[.string name, .int .i64 cols, .slice A n c] 24)
  have hs2 := heap_alloc_new (w.alloc (.cells #[.string name, .int .i64 cols, .slice A n c] 24)) (.cells #[.string name2, .int .i64 cols2, .slice B m d] 24)
  have hs3 := heap_alloc_new ((w.alloc (.cells #[.string name, .int .i64 cols, .slice A n c] 24)).alloc (.cells #[.string name2, .int .i64 cols2, .slice B m d] 24)) (.cells #[.slice none 0 0, .int .i64 0] 30)
  rw [World.size_alloc] at hs2
  rw [World.size_alloc, World.size_alloc] at hs3
  have hS1 : W.heap[w.heap.size]? = some (.cells #[.string name, .int .i64 cols, .slice A n c] 24 (0, 0)) := by rw [hW]; exact (Below.heap_alloc _ _ _ (by simp; omega)).trans ((Below.heap_alloc _ _ _ (by simp)).trans hs1)
  have hS2 : W.heap[w.heap.size + 1]? = some (.cells #[.string name2, .int .i64 cols2, .slice B m d] 24 (0, 0)) := by rw [hW]; exact (Below.heap_alloc _ _ _ (by simp)).trans hs2
  have hR : W.heap[w.heap.size + 1 + 1]? = some (.cells #[.slice none 0 0, .int .i64 0] 30 (0, 0)) := by rw [hW]; exact hs3
  have hsW : W.heap.size = w.heap.size + 3 := by rw [hW]; simp
  have hbW : Below w.heap.size w W := by rw [hW]; exact (((Below.refl _ _).alloc (Nat.le_refl _) _).alloc (by simp) _).alloc (by simp; omega) _
  have hl1 : w.heap.size < W.drew.heap.size := by show _ < W.heap.size; omega
  have hl2 : w.heap.size + 1 < W.drew.heap.size := by show _ < W.heap.size; omega
  have hl3 : w.heap.size + 1 + 1 < W.heap.size := by omega
  have GA := Lib.hid ((HA.out.below hbW).below (w' := W.drew) (Below.refl _ _).drew)
  have GB := Lib.hid ((HB.out.below hbW).below (w' := W.drew) (Below.refl _ _).drew)
  rw [← hW]
  clear hW hs1 hs2 hs3
  refine wp_region_tree [5] (.free 0 (.free 2 (.eff 1 (.eff 3 (.eff 4 (.last 5 .nil)))))) (by kernel_rfl) (by kernel_rfl) (fun _ _ d _ _ h => by cases d <;> exact h) ?_
  conv => arg 4; whnf
  conv => arg 4; arg 1; whnf
  refine pt_loadB (k := w.heap.size) (fun W h => load_sheet _ W _ _ _ _ _ (h.trans hS1)) hl1 (by rfl) rfl rfl ?_
  simp only [Act.put, List.setIfInBounds_toArray, List.set_cons_zero, List.set_cons_succ]
  conv => arg 4; whnf
  conv => arg 4; arg 1; whnf
  refine pt_loadB (k := w.heap.size + 1) (fun W h => load_sheet _ W _ _ _ _ _ (h.trans hS2)) hl2 (by rfl) rfl rfl ?_
  simp only [Act.put, List.setIfInBounds_toArray, List.set_cons_zero, List.set_cons_succ]
  conv => arg 4; whnf
  conv => arg 4; arg 1; whnf
  refine pt_eff (by rfl) (fun K hK => ?_)
  go_wp2_with fail
  refine (keys_rd _ A rs n c name cols hn GA.out hma).mono ?_
  rintro e w1 ⟨X, c1, rfl, hX, hb1⟩
  refine hK _ _ hb1 ?_
  clear hK K
  have HX := Lib.hid hX
  have HB1 := Lib.hid hb1
  clear hX hb1
  conv => arg 4; whnf
  conv => arg 4; arg 1; whnf
  refine pt_eff (by rfl) (fun K hK => ?_)
  go_wp2_with fail
  refine (keys_rd _ B ts m d name2 cols2 hm (GB.out.below HB1.out) hmb).mono ?_
  rintro e w2 ⟨Y, c2, rfl, hY, hb2⟩
  refine hK _ _ hb2 ?_
  clear hK K
  have HY := Lib.hid hY
  have HB2 := Lib.hid hb2
  clear hY hb2
  conv => arg 4; whnf
  conv => arg 4; arg 1; whnf
  refine pt_eff (by rfl) (fun K hK => ?_)
  go_wp2_with fail
  refine (paired_rd _ X Y (rowKeys rs) (rowKeys ts) n m c1 c2 (by rw [rowKeys_len]; exact hn) (by rw [rowKeys_len]; exact hm) (HX.out.below HB2.out) HY.out (by rw [rowKeys_len]; exact hma.1) (by rw [rowKeys_len]; exact hmb.1)).mono ?_
  rintro e w3 ⟨Z, c3, rfl, hown, hb3⟩
  refine hK _ _ hb3 ?_
  clear hK K
  have hbb : Below W.heap.size W w3 := (show Below W.heap.size W w1 from (Below.refl _ W).drew.trans HB1.out).trans ((HB2.out.mono HB1.out.size).trans (hb3.mono (Nat.le_trans HB1.out.size HB2.out.size)))
  have hsz : W.heap.size ≤ w2.heap.size := Nat.le_trans HB1.out.size HB2.out.size
  obtain ⟨h0, h1, h2, h3⟩ := zfacts ((hbb.block _ hl3).trans hR)
  conv => arg 4; whnf
  conv => arg 4; arg 1; whnf
  refine pt_last (by rfl) (fun K hK => ?_)
  go_wp2
  refine pt_nil ?_
  go_wp2
  have hz : ((w3.setCell ⟨w.heap.size + 1 + 1, 0, none⟩ (.slice Z n c3)).setCell ⟨w.heap.size + 1 + 1, 1, none⟩ (.int .i64 m)).heap[w.heap.size + 1 + 1]? = some (.cells #[.slice Z n c3, .int .i64 m] 30 (0, 0)) := by simp [World.setCell, Array.getElem?_modify, (hbb.block _ hl3).trans hR]
  obtain ⟨q0, q1, _⟩ := zfacts hz
  have hlo : ∀ k, (Value.slice Z n c3).ownBlock = some k → k ≠ w.heap.size + 1 + 1 := fun k e => by have := (hown.lt k e).1; omega
  have hown6 := ownsRow_setCell_other (ownsRow_setCell_other hown (fun e => hlo _ e rfl) (.slice Z n c3) (a := ⟨w.heap.size + 1 + 1, 0, none⟩)) (fun e => hlo _ e rfl) (.int .i64 m) (a := ⟨w.heap.size + 1 + 1, 1, none⟩)
  have hb6 := ((hbW.trans (hbb.mono hbW.size)).setCell (p := ⟨w.heap.size + 1 + 1, 0, none⟩) (by show w.heap.size ≤ w.heap.size + 1 + 1; omega) (.slice Z n c3)).setCell (p := ⟨w.heap.size + 1 + 1, 1, none⟩) (by show w.heap.size ≤ w.heap.size + 1 + 1; omega) (.int .i64 m)
  refine bodyPost_ret (v := .agg #[.slice Z n c3, .int .i64 m]) ?_ rfl ?_
  · simp [results, Try.f10, go_sem, q0, q1]
  · exact ⟨_, _, rfl, own_base hown6 (by omega), hb6⟩
end Go.Proofs.Ythoccmgfpjfkoaa
