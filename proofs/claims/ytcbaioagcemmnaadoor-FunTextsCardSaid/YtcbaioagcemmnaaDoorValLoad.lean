/- Loads of a value, values made by numbers. Written by valerrgen.py. -/
import Derived.Test.YtcbaioagcemmnaaDoorValTwo
import Derived.Test.YtcbaioagcemmnaaDoorPlanT
namespace Go.Proofs.YtcbaioagcemmnaaDoor
open Go.RowKit Go.Maps

theorem load_val (k : Nat) (W : World) (a b c : Value) (h : W.heap[k]? = some (.cells #[a, b, c] 31 (0, 0))) :
    (Instr.loadAt 31 (.pointer (some ⟨k, 0, none⟩))).run Tryd.prog W = .ok (.agg #[a, b, c]) W := by
  obtain ⟨h0, h1, h2, _⟩ := val3 h
  simp [go_sem, h0, h1, h2]
theorem pt_loadB {P : Program} {ops : Array Oper} {Q : Exit → Act → World → Prop} {a : Act} {w : World} {o : Oper} {t : PTo} {T : TypeId} {x : Operand} {k : Nat} {v : Value} (hrun : ∀ W, W.heap[k]? = w.heap[k]? → (Instr.loadAt T (.pointer (some ⟨k, 0, none⟩))).run P W = .ok v W) (hlt : k < w.heap.size)
    (hw : Region.wanted o (yielded ops a.tmps) = true) (ho : o.op = .load T x) (hx : a.eval x = .pointer (some ⟨k, 0, none⟩)) (h2 : PlannedT P ops Q t (a.put o.dst v) w) : PlannedT P ops Q (.free o t) a w := by
  refine pt_at hw (fun W hW => ?_) h2
  unfold execOp
  rw [ho]
  simp only [hx, Sem.run_bind, hrun W (hW.block k hlt), Result.andThen_ok]
  rfl

def MadePost (w : World) (p : Int → Prop) (e : Ending) (w' : World) : Prop := ∃ k n s, e = .returned (.agg #[.int .i64 k, .int .i64 n, .string s]) ∧ p k ∧ Below w.heap.size w w'
theorem and1023 : ∀ n : Nat, n < 256 → bits .and .i64 (n : Int) 1023 = n := by decide +kernel
set_option maxRecDepth 100000 in
theorem make_err (w : World) (n : Nat) (s : ByteArray) (hn : n < 256) : Calls Tryd.prog 13 #[.int .u8 4, .int .i64 n, .string s] w (MadePost w (fun k => k = 4)) := by
  have hb := and1023 n hn
  have hw : IntKind.i64.wrap (n : Int) = n := by simp [IntKind.wrap, IntKind.signed, IntKind.bits]; omega
  go_enter Tryd.func13, Tryd.ntmps13
  go_wp2
  refine bodyPost_ret (v := .agg #[.int .i64 4, .int .i64 (1 + (n : Int) % 6), .string ⟨#[]⟩]) ?_ rfl ?_
  · simp [results, Tryd.f13, go_sem]
  · exact ⟨4, _, _, rfl, rfl, (Below.refl _ _).alloc (Nat.le_refl _) _⟩
set_option maxRecDepth 100000 in
theorem make_low (w : World) (k : Nat) (n : Int) (hk : k < 4) : Calls Tryd.prog 13 #[.int .u8 k, .int .i64 n, .string ⟨#[116]⟩] w (MadePost w (fun k => k ≠ 4)) := by
  rcases (show k = 0 ∨ k = 1 ∨ k = 2 ∨ k = 3 by omega) with rfl | rfl | rfl | rfl
  · go_enter Tryd.func13, Tryd.ntmps13
    go_wp2
    refine bodyPost_ret (v := .agg #[.int .i64 0, .int .i64 0, .string ⟨#[]⟩]) ?_ rfl ?_
    · simp [results, Tryd.f13, go_sem]
    · exact ⟨0, _, _, rfl, by decide, (Below.refl _ _).alloc (Nat.le_refl _) _⟩
  · go_enter Tryd.func13, Tryd.ntmps13
    go_wp2
    refine bodyPost_ret (v := .agg #[.int .i64 1, .int .i64 n, .string ⟨#[]⟩]) ?_ rfl ?_
    · simp [results, Tryd.f13, go_sem]
    · exact ⟨1, _, _, rfl, by decide, (Below.refl _ _).alloc (Nat.le_refl _) _⟩
  · go_enter Tryd.func13, Tryd.ntmps13
    go_wp2
    refine bodyPost_ret (v := .agg #[.int .i64 2, .int .i64 0, .string ⟨#[116]⟩]) ?_ rfl ?_
    · simp [results, Tryd.f13, go_sem]
    · exact ⟨2, _, _, rfl, by decide, (Below.refl _ _).alloc (Nat.le_refl _) _⟩
  · go_enter Tryd.func13, Tryd.ntmps13
    go_wp2
    refine bodyPost_ret (v := .agg #[.int .i64 3, .int .i64 (bits .and .i64 n 1), .string ⟨#[]⟩]) ?_ rfl ?_
    · simp [results, Tryd.f13, go_sem]
    · exact ⟨3, _, _, rfl, by decide, (Below.refl _ _).alloc (Nat.le_refl _) _⟩

end Go.Proofs.YtcbaioagcemmnaaDoor
