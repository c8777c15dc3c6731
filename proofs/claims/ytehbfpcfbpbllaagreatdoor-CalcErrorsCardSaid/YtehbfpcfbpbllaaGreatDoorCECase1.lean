/- CalcErrors, a shape of its first text: the kernel runs it. Written by cegen.py. -/
import Derived.Test.YtehbfpcfbpbllaaGreatDoorCEMemo
import Derived.Test.YtehbfpcfbpbllaaGreatDoorCEAwake
namespace Go.Proofs.YtehbfpcfbpbllaaGreatDoor
namespace VM
open Go Go.RowKit
set_option linter.unusedVariables false
set_option linter.unusedSectionVars false
set_option maxRecDepth 20000
noncomputable section
def ceB1 : Bs := [(0, 0), (3, 9), (0, 9), (0, 72), (0, 0), (0, 0), (1, 9)]
def ceMx1 : Memo := ⟨[.symS 2111323305173165607054507734001101288978491163703602065766150432050973324488637731190507766778183880216240778429380404468931063521147510882913543442746196512597846524746814450403526666501407576752410838037109111707759142403704850891938097883639780234833395433351234499092244510854793208338688117079949412983170795060172502605214088840507504903860039196279781342321544506352233927020466696856308083064872049027556023273110916186405706012485902033152589843204442859052791488774249793035561101380055358301375850282463437628133094542844067328285912522265999273450214660721050866548621320589252727168628743964520805994647783183933706662920215919362380888910857019720642678884300762638872676047821231034990219921771298828911756877740463039428575049749992957976297656717679646007348901363641794370080114364771155914522049840735053486988908618944972519067175354051157322218079129893419455653350378991432399299666324872624198345898969843700548820543099709057176090595832533143938055909398351370129064951876587813825237233087015415584933963349461809406401568808017854525], .bool true, []⟩
theorem ceMx1_run : look [] 104 (callOf (Em ceB1) (exec (Em ceB1) 3000) 30 ceMx1.al ⟨.leaf, 0⟩) = some (ceMx1.v.ren (rn [] 104), ceMx1.bs.map (Blk.ren (rn [] 104))) := by kernel_rfl
theorem ceMx1_ok {xs : List Int} (hb : inB ceB1 xs) {tab : List (Nat × Obj)} (ht : ∀ w : World, (∀ p ∈ tab, w.heap[p.1]? = some p.2) → Tab w) (hg : GlobOK Tryz.prog tab globs) : letI := syL xs tab; MemoOK Tryz.prog 30 ceMx1 :=
  @memoOK_of (syL xs tab) Tryz.prog (Em ceB1) (envM hb hg _) (@idleM (syL xs tab) _ _) (hooksOKm hb ht) (@nameOK (syL xs tab)) 30 3000 104 [] ceMx1 ceMx1_run rfl rfl (by decide)
def ceFx1 : Memo := ⟨[.symS 2111323305173165607054507734001101288978491163703602065766150432050973324488637731190507766778183880216240778429380404468931063521147510882913543442746196512597846524746814450403526666501407576752410838037109111707759142403704850891938097883639780234833395433351234499092244510854793208338688117079949412983170795060172502605214088840507504903860039196279781342321544506352233927020466696856308083064872049027556023273110916186405706012485902033152589843204442859052791488774249793035561101380055358301375850282463437628133094542844067328285912522265999273450214660721050866548621320589252727168628743964520805994647783183933706662920215919362380888910857019720642678884300762638872676047821231034990219921771298828911756877740463039428575049749992957976297656717679646007348901363641794370080114364771155914522049840735053486988908618944972519067175354051157322218079129893419455653350378991432399299666324872624198345898969843700548820543099709057176090595832533143938055909398351370129064951876587813825237233087015415584933963349461809406401568808017854525], .tup [.slo 0 0 3 3 14, .bool true], [.cells [.int .i64 (.ofNat 5), .int .i64 (.ofNat 0), .str [], .str [], .int .i64 (.ofNat 0), .symI .i64 730750818667445301095532483888603174574477017087, .bool false, .bool false, .str [], .int .i64 (.ofNat 0), .int .i64 (.ofNat 0), .bool false, .bool false, .nils, .int .i64 (.ofNat 1), .symI .i64 1067993517963369044535850330114687640157221353317266255281004089178617056054266692355008369786880, .str [], .str [], .int .i64 (.ofNat 0), .int .i64 (.ofNat 0), .bool false, .bool false, .str [], .int .i64 (.ofNat 0), .int .i64 (.ofNat 0), .bool false, .bool false, .nils, .int .i64 (.ofNat 16), .int .i64 (.ofNat 0), .str [], .str [], .int .i64 (.ofNat 0), .int .i64 (.ofNat 0), .bool false, .bool false, .str [], .int .i64 (.ofNat 0), .int .i64 (.ofNat 0), .bool false, .bool false, .sl 1 0 2 2] 89 false, .cells [.int .i64 (.ofNat 0), .int .i64 (.ofNat 1)] 3 false]⟩
theorem ceFx1_run : look [172, 169] 180 (callOf (Em ceB1) (exec (Em ceB1) 3000) 15 ceFx1.al ⟨.leaf, 0⟩) = some (ceFx1.v.ren (rn [172, 169] 180), ceFx1.bs.map (Blk.ren (rn [172, 169] 180))) := by kernel_rfl
theorem ceFx1_ok {xs : List Int} (hb : inB ceB1 xs) {tab : List (Nat × Obj)} (ht : ∀ w : World, (∀ p ∈ tab, w.heap[p.1]? = some p.2) → Tab w) (hg : GlobOK Tryz.prog tab globs) : letI := syL xs tab; MemoOK Tryz.prog 15 ceFx1 :=
  @memoOK_of (syL xs tab) Tryz.prog (Em ceB1) (envM hb hg _) (@idleM (syL xs tab) _ _) (hooksOKm hb ht) (@nameOK (syL xs tab)) 15 3000 180 [172, 169] ceFx1 ceFx1_run rfl rfl (by decide)
def ceH1 : List (Nat × Hook) := [(220, idxS ceB1), (21, digS ceB1), (7, digS ceB1), (15, memoH (ceFx1 :: ceF)), (30, memoH (ceMx1 :: ceM)), (6, memoH [awakeMemo])]
def ceA1 : List V := [.symI .u16 803469023445577362187461117854993183189644817756310183346146, .symI .u8 1067993517963369044535850330114687640157221353317266255281004089178617056054266692355008369786880]
theorem ceRun1 : isV (callOf (EmH ceB1 ceH1) (exec (EmH ceB1 ceH1) 3000) 4 ceA1 ⟨.leaf, 0⟩) = some (.bool true) := by kernel_rfl
theorem ceHooks1 {xs : List Int} (hb : inB ceB1 xs) {tab : List (Nat × Obj)} (ht : ∀ w : World, (∀ p ∈ tab, w.heap[p.1]? = some p.2) → Tab w) (hg : GlobOK Tryz.prog tab globs) : @HooksOK (syL xs tab) Tryz.prog (EmH ceB1 ceH1) := by
  letI := syL xs tab
  intro f g hf
  refine hooksOf_ok (l := ceH1) (fun p hp => ?_) hf
  simp only [ceH1, List.mem_cons, List.not_mem_nil, or_false] at hp
  rcases hp with rfl | rfl | rfl | rfl | rfl | rfl
  · exact idxS_ok hb
  · exact itoaS_ok hb ht
  · exact digits_ok hb
  · exact memos_ok fun m hm => by
      rcases List.mem_cons.1 hm with rfl | hm
      · exact ceFx1_ok hb ht hg
      · exact ceF_ok hg m hm
  · exact memos_ok fun m hm => by
      rcases List.mem_cons.1 hm with rfl | hm
      · exact ceMx1_ok hb ht hg
      · exact ceM_ok hg m hm
  · exact memos_ok fun m hm => by
      rw [List.mem_singleton.1 hm]
      exact awakeMemo_ok
theorem ceCase1 {a b c q d e f : Int} (hb : inB ceB1 [a, b, c, q, d, e, f]) {tab : List (Nat × Obj)} (ht : ∀ w : World, (∀ p ∈ tab, w.heap[p.1]? = some p.2) → Tab w) (hg : GlobOK Tryz.prog tab globs) (W : World) (hW : ∀ p ∈ tab, p.1 < W.heap.size ∧ W.heap[p.1]? = some p.2) (row n : Int)
    (h1 : row = -30 + 0 * a + 10 * b + 1 * c + 900 * q) (h2 : n = 0 * d + 0 * e + 1 * f) :
    Calls Tryz.prog 4 #[.int .u16 row, .int .u8 n] W fun e W' => e = .returned (.bool true) ∧ Below W.heap.size W W' := by
  letI := syL [a, b, c, q, d, e, f] tab
  obtain ⟨h', hr⟩ := isV_some ceRun1
  have R : Rel W.heap.size (fun _ => none) ⟨.leaf, 0⟩ W := Rel.none W hW
  have ra : RepL (fun _ => none) ceA1 [.int .u16 row, .int .u8 n] := by
    have d1 : decL 40 803469023445577362187461117854993183189644817756310183346146 = [-30, 0, 10, 1, 900] := by kernel_rfl
    have r1 := Rep.symI (σ := fun _ => none) .u16 803469023445577362187461117854993183189644817756310183346146
    have e1 : Sy.i 803469023445577362187461117854993183189644817756310183346146 = row := by
      show lval (decL 40 _) _ = row
      rw [d1, h1]
      simp [lval]
      try omega
    rw [e1] at r1
    have d2 : decL 40 1067993517963369044535850330114687640157221353317266255281004089178617056054266692355008369786880 = [0, 0, 0, 0, 0, 0, 0, 1] := by kernel_rfl
    have r2 := Rep.symI (σ := fun _ => none) .u8 1067993517963369044535850330114687640157221353317266255281004089178617056054266692355008369786880
    have e2 : Sy.i 1067993517963369044535850330114687640157221353317266255281004089178617056054266692355008369786880 = n := by
      show lval (decL 40 _) _ = n
      rw [d2, h2]
      simp [lval]
      try omega
    rw [e2] at r2
    exact .cons _ _ _ _ r1 (.cons _ _ _ _ r2 .nil)
  have C := @runs (syL [a, b, c, q, d, e, f] tab) Tryz.prog (EmH ceB1 ceH1) (envM hb hg _) (@idleM (syL [a, b, c, q, d, e, f] tab) _ _) (ceHooks1 hb ht hg) (@nameOK (syL [a, b, c, q, d, e, f] tab)) 4 _ Tryz.func4 (by kernel_rfl) _ _ _ _ _ hr _ _ _ _ R ra
  refine C.mono ?_
  rintro e w2 ⟨x, rfl, σ, _, _, h2, _, h4⟩
  cases h2
  exact ⟨rfl, h4⟩
end
end VM
end Go.Proofs.YtehbfpcfbpbllaaGreatDoor
