/- CalcErrors, a shape of its first text: the kernel runs it. Written by cegen.py. -/
import Derived.Test.YtehbfpcfbpbllaaGreatDoorCEMemo
import Derived.Test.YtehbfpcfbpbllaaGreatDoorCEAwake
namespace Go.Proofs.YtehbfpcfbpbllaaGreatDoor
namespace VM
open Go Go.RowKit
set_option linter.unusedVariables false
set_option linter.unusedSectionVars false
set_option maxRecDepth 20000
noncomputable section
def ceB6 : Bs := [(1, 8), (0, 9), (0, 9), (0, 72), (0, 0), (1, 9), (0, 9)]
def ceMx6 : Memo := ⟨[.symS 43949019602514076664321159597539430826086107305853245714377276176950646957130455342527691568451681359899083174867323280210656895392649426411327850182500943432104095485458416455064453301722312224291829067020991027853239908478554110467242123361397353793047780860746160423396789137890068245983524329610653564571792235852585706462201354570751215566084764720416029725437281656101038812764072192079853622475430410658833368417755176319115932905449095452033530638044678111467390857703777580061805579173593161196033102408956200090382283120612771082915908913249432196964468739291709539184692738290838004696739612636094950117996881052913381824905302722970143214377004654084974978117864986207544273089127193785578450487381951630718134967181090389361194579139461392929953000414441664437736481924654219318407364065703234711762079162149708740331812654230281823764587044134995069766385557190894621988973780342481287217742227703339389824365994403885290139875940481656014640038788319135780365264073541353906188610752624866996303997299452709491180210425343700202287010032068956413136422291843892128617303770011076645368114952323477940444365982608720779539762705924263889225446281490182965932983553960241925783925122734644938688578773954465438249714352277631449432860875469078043785655254519764057149647586738740548545736313891313129461026412358149753643613322121827799378328611915599269244596084410653984234384148207934271041047247273942868855668837799431350779965], .bool true, []⟩
theorem ceMx6_run : look [] 104 (callOf (Em ceB6) (exec (Em ceB6) 3000) 30 ceMx6.al ⟨.leaf, 0⟩) = some (ceMx6.v.ren (rn [] 104), ceMx6.bs.map (Blk.ren (rn [] 104))) := by kernel_rfl
theorem ceMx6_ok {xs : List Int} (hb : inB ceB6 xs) {tab : List (Nat × Obj)} (ht : ∀ w : World, (∀ p ∈ tab, w.heap[p.1]? = some p.2) → Tab w) (hg : GlobOK Tryz.prog tab globs) : letI := syL xs tab; MemoOK Tryz.prog 30 ceMx6 :=
  @memoOK_of (syL xs tab) Tryz.prog (Em ceB6) (envM hb hg _) (@idleM (syL xs tab) _ _) (hooksOKm hb ht) (@nameOK (syL xs tab)) 30 3000 104 [] ceMx6 ceMx6_run rfl rfl (by decide)
def ceFx6 : Memo := ⟨[.symS 43949019602514076664321159597539430826086107305853245714377276176950646957130455342527691568451681359899083174867323280210656895392649426411327850182500943432104095485458416455064453301722312224291829067020991027853239908478554110467242123361397353793047780860746160423396789137890068245983524329610653564571792235852585706462201354570751215566084764720416029725437281656101038812764072192079853622475430410658833368417755176319115932905449095452033530638044678111467390857703777580061805579173593161196033102408956200090382283120612771082915908913249432196964468739291709539184692738290838004696739612636094950117996881052913381824905302722970143214377004654084974978117864986207544273089127193785578450487381951630718134967181090389361194579139461392929953000414441664437736481924654219318407364065703234711762079162149708740331812654230281823764587044134995069766385557190894621988973780342481287217742227703339389824365994403885290139875940481656014640038788319135780365264073541353906188610752624866996303997299452709491180210425343700202287010032068956413136422291843892128617303770011076645368114952323477940444365982608720779539762705924263889225446281490182965932983553960241925783925122734644938688578773954465438249714352277631449432860875469078043785655254519764057149647586738740548545736313891313129461026412358149753643613322121827799378328611915599269244596084410653984234384148207934271041047247273942868855668837799431350779965], .tup [.slo 0 0 3 3 14, .bool true], [.cells [.int .i64 (.ofNat 5), .int .i64 (.ofNat 0), .str [], .str [], .int .i64 (.ofNat 0), .symI .i64 730750818667445301095532483888603284525639794687, .bool false, .bool false, .str [], .int .i64 (.ofNat 0), .int .i64 (.ofNat 0), .bool false, .bool false, .nils, .int .i64 (.ofNat 1), .symI .i64 1067993517963369044535867998585335424000517186292273684466162364017585812243847908417021295984640, .str [], .str [], .int .i64 (.ofNat 0), .int .i64 (.ofNat 0), .bool false, .bool false, .str [], .int .i64 (.ofNat 0), .int .i64 (.ofNat 0), .bool false, .bool false, .nils, .int .i64 (.ofNat 16), .int .i64 (.ofNat 0), .str [], .str [], .int .i64 (.ofNat 0), .int .i64 (.ofNat 0), .bool false, .bool false, .str [], .int .i64 (.ofNat 0), .int .i64 (.ofNat 0), .bool false, .bool false, .sl 1 0 2 2] 89 false, .cells [.int .i64 (.ofNat 0), .int .i64 (.ofNat 1)] 3 false]⟩
theorem ceFx6_run : look [172, 169] 180 (callOf (Em ceB6) (exec (Em ceB6) 3000) 15 ceFx6.al ⟨.leaf, 0⟩) = some (ceFx6.v.ren (rn [172, 169] 180), ceFx6.bs.map (Blk.ren (rn [172, 169] 180))) := by kernel_rfl
theorem ceFx6_ok {xs : List Int} (hb : inB ceB6 xs) {tab : List (Nat × Obj)} (ht : ∀ w : World, (∀ p ∈ tab, w.heap[p.1]? = some p.2) → Tab w) (hg : GlobOK Tryz.prog tab globs) : letI := syL xs tab; MemoOK Tryz.prog 15 ceFx6 :=
  @memoOK_of (syL xs tab) Tryz.prog (Em ceB6) (envM hb hg _) (@idleM (syL xs tab) _ _) (hooksOKm hb ht) (@nameOK (syL xs tab)) 15 3000 180 [172, 169] ceFx6 ceFx6_run rfl rfl (by decide)
def ceH6 : List (Nat × Hook) := [(220, idxS ceB6), (21, digS ceB6), (7, digS ceB6), (15, memoH (ceFx6 :: ceF)), (30, memoH (ceMx6 :: ceM)), (6, memoH [awakeMemo])]
def ceA6 : List V := [.symI .u16 803469023445577362187461117854993183189644817866261346123746, .symI .u8 1067993517963369044535867998585335424000517186292273684466162364017585812243847908417021295984640]
theorem ceRun6 : isV (callOf (EmH ceB6 ceH6) (exec (EmH ceB6 ceH6) 3000) 4 ceA6 ⟨.leaf, 0⟩) = some (.bool true) := by kernel_rfl
theorem ceHooks6 {xs : List Int} (hb : inB ceB6 xs) {tab : List (Nat × Obj)} (ht : ∀ w : World, (∀ p ∈ tab, w.heap[p.1]? = some p.2) → Tab w) (hg : GlobOK Tryz.prog tab globs) : @HooksOK (syL xs tab) Tryz.prog (EmH ceB6 ceH6) := by
  letI := syL xs tab
  intro f g hf
  refine hooksOf_ok (l := ceH6) (fun p hp => ?_) hf
  simp only [ceH6, List.mem_cons, List.not_mem_nil, or_false] at hp
  rcases hp with rfl | rfl | rfl | rfl | rfl | rfl
  · exact idxS_ok hb
  · exact itoaS_ok hb ht
  · exact digits_ok hb
  · exact memos_ok fun m hm => by
      rcases List.mem_cons.1 hm with rfl | hm
      · exact ceFx6_ok hb ht hg
      · exact ceF_ok hg m hm
  · exact memos_ok fun m hm => by
      rcases List.mem_cons.1 hm with rfl | hm
      · exact ceMx6_ok hb ht hg
      · exact ceM_ok hg m hm
  · exact memos_ok fun m hm => by
      rw [List.mem_singleton.1 hm]
      exact awakeMemo_ok
theorem ceCase6 {a b c q d e f : Int} (hb : inB ceB6 [a, b, c, q, d, e, f]) {tab : List (Nat × Obj)} (ht : ∀ w : World, (∀ p ∈ tab, w.heap[p.1]? = some p.2) → Tab w) (hg : GlobOK Tryz.prog tab globs) (W : World) (hW : ∀ p ∈ tab, p.1 < W.heap.size ∧ W.heap[p.1]? = some p.2) (row n : Int)
    (h1 : row = -30 + 100 * a + 10 * b + 1 * c + 900 * q) (h2 : n = 0 * d + 10 * e + 1 * f) :
    Calls Tryz.prog 4 #[.int .u16 row, .int .u8 n] W fun e W' => e = .returned (.bool true) ∧ Below W.heap.size W W' := by
  letI := syL [a, b, c, q, d, e, f] tab
  obtain ⟨h', hr⟩ := isV_some ceRun6
  have R : Rel W.heap.size (fun _ => none) ⟨.leaf, 0⟩ W := Rel.none W hW
  have ra : RepL (fun _ => none) ceA6 [.int .u16 row, .int .u8 n] := by
    have d1 : decL 40 803469023445577362187461117854993183189644817866261346123746 = [-30, 100, 10, 1, 900] := by kernel_rfl
    have r1 := Rep.symI (σ := fun _ => none) .u16 803469023445577362187461117854993183189644817866261346123746
    have e1 : Sy.i 803469023445577362187461117854993183189644817866261346123746 = row := by
      show lval (decL 40 _) _ = row
      rw [d1, h1]
      simp [lval]
      try omega
    rw [e1] at r1
    have d2 : decL 40 1067993517963369044535867998585335424000517186292273684466162364017585812243847908417021295984640 = [0, 0, 0, 0, 0, 0, 10, 1] := by kernel_rfl
    have r2 := Rep.symI (σ := fun _ => none) .u8 1067993517963369044535867998585335424000517186292273684466162364017585812243847908417021295984640
    have e2 : Sy.i 1067993517963369044535867998585335424000517186292273684466162364017585812243847908417021295984640 = n := by
      show lval (decL 40 _) _ = n
      rw [d2, h2]
      simp [lval]
      try omega
    rw [e2] at r2
    exact .cons _ _ _ _ r1 (.cons _ _ _ _ r2 .nil)
  have C := @runs (syL [a, b, c, q, d, e, f] tab) Tryz.prog (EmH ceB6 ceH6) (envM hb hg _) (@idleM (syL [a, b, c, q, d, e, f] tab) _ _) (ceHooks6 hb ht hg) (@nameOK (syL [a, b, c, q, d, e, f] tab)) 4 _ Tryz.func4 (by kernel_rfl) _ _ _ _ _ hr _ _ _ _ R ra
  refine C.mono ?_
  rintro e w2 ⟨x, rfl, σ, _, _, h2, _, h4⟩
  cases h2
  exact ⟨rfl, h4⟩
end
end VM
end Go.Proofs.YtehbfpcfbpbllaaGreatDoor
