/- CalcErrors, a shape of its first text: the kernel runs it. Written by cegen.py. -/
import Derived.Test.YtehbfpcfbpbllaaGreatDoorCEMemo
import Derived.Test.YtehbfpcfbpbllaaGreatDoorCEAwake
namespace Go.Proofs.YtehbfpcfbpbllaaGreatDoor
namespace VM
open Go Go.RowKit
set_option linter.unusedVariables false
set_option linter.unusedSectionVars false
set_option maxRecDepth 20000
noncomputable section
def ceB3 : Bs := [(0, 0), (3, 9), (0, 9), (0, 72), (1, 2), (0, 9), (0, 9)]
def ceMx3 : Memo := ⟨[.symS 43949019602514076664321159597539430826086107305853245714377276176950646957130455342527691568451681359899083174867323280210656895392649426411327850182500943432104095485458416455064453301722312224291829067020991027853239908478554110467242123361397353793047780860746160423396789137890068245983524329610653564571792235852585706462201354570751215566084764720416029725437281656101038812764072192079853622475430410660579814122625798430298365553002791306647058751150835924905876067343475510000972083010128578347857337095992868338696253027539866875241670182905261741547492788211098153762965502996011353201865070972706686313792191066369912355411588297611804191675156989061139309121095725431047436971180825428067804935301879658192457427535142875291691957323581278918177861805957292684143582801264713809308225945396478522263904358073674137546372069189836681376367884871444013061523395625607914848610763667317939253222663916419807178425616422845947739645169290822353219969098044795536968932222436676476816498326756066770525453551528569545973690370545815010723939198085138554378021702179772023930078077960478951163290245851213700933529748170678832743810406657597066836260066033802459768822486305912662773459148139320588248022342682577360836235476905970104123488749691758418170536027206127248993649584248402267820515716487709746350790521877376152357132900709038079629583135255985280088649063959359030130455504611500442106951871759512611206383436358293815033917], .bool true, []⟩
theorem ceMx3_run : look [] 104 (callOf (Em ceB3) (exec (Em ceB3) 3000) 30 ceMx3.al ⟨.leaf, 0⟩) = some (ceMx3.v.ren (rn [] 104), ceMx3.bs.map (Blk.ren (rn [] 104))) := by kernel_rfl
theorem ceMx3_ok {xs : List Int} (hb : inB ceB3 xs) {tab : List (Nat × Obj)} (ht : ∀ w : World, (∀ p ∈ tab, w.heap[p.1]? = some p.2) → Tab w) (hg : GlobOK Tryz.prog tab globs) : letI := syL xs tab; MemoOK Tryz.prog 30 ceMx3 :=
  @memoOK_of (syL xs tab) Tryz.prog (Em ceB3) (envM hb hg _) (@idleM (syL xs tab) _ _) (hooksOKm hb ht) (@nameOK (syL xs tab)) 30 3000 104 [] ceMx3 ceMx3_run rfl rfl (by decide)
def ceFx3 : Memo := ⟨[.symS 43949019602514076664321159597539430826086107305853245714377276176950646957130455342527691568451681359899083174867323280210656895392649426411327850182500943432104095485458416455064453301722312224291829067020991027853239908478554110467242123361397353793047780860746160423396789137890068245983524329610653564571792235852585706462201354570751215566084764720416029725437281656101038812764072192079853622475430410660579814122625798430298365553002791306647058751150835924905876067343475510000972083010128578347857337095992868338696253027539866875241670182905261741547492788211098153762965502996011353201865070972706686313792191066369912355411588297611804191675156989061139309121095725431047436971180825428067804935301879658192457427535142875291691957323581278918177861805957292684143582801264713809308225945396478522263904358073674137546372069189836681376367884871444013061523395625607914848610763667317939253222663916419807178425616422845947739645169290822353219969098044795536968932222436676476816498326756066770525453551528569545973690370545815010723939198085138554378021702179772023930078077960478951163290245851213700933529748170678832743810406657597066836260066033802459768822486305912662773459148139320588248022342682577360836235476905970104123488749691758418170536027206127248993649584248402267820515716487709746350790521877376152357132900709038079629583135255985280088649063959359030130455504611500442106951871759512611206383436358293815033917], .tup [.slo 0 0 3 3 14, .bool true], [.cells [.int .i64 (.ofNat 5), .int .i64 (.ofNat 0), .str [], .str [], .int .i64 (.ofNat 0), .symI .i64 730750818667445301095532483888603174574477017087, .bool false, .bool false, .str [], .int .i64 (.ofNat 0), .int .i64 (.ofNat 0), .bool false, .bool false, .nils, .int .i64 (.ofNat 1), .symI .i64 1067993517963369044535867998585335584694321612191301238662371598133846064464147286696304826122240, .str [], .str [], .int .i64 (.ofNat 0), .int .i64 (.ofNat 0), .bool false, .bool false, .str [], .int .i64 (.ofNat 0), .int .i64 (.ofNat 0), .bool false, .bool false, .nils, .int .i64 (.ofNat 16), .int .i64 (.ofNat 0), .str [], .str [], .int .i64 (.ofNat 0), .int .i64 (.ofNat 0), .bool false, .bool false, .str [], .int .i64 (.ofNat 0), .int .i64 (.ofNat 0), .bool false, .bool false, .sl 1 0 2 2] 89 false, .cells [.int .i64 (.ofNat 0), .int .i64 (.ofNat 1)] 3 false]⟩
theorem ceFx3_run : look [172, 169] 180 (callOf (Em ceB3) (exec (Em ceB3) 3000) 15 ceFx3.al ⟨.leaf, 0⟩) = some (ceFx3.v.ren (rn [172, 169] 180), ceFx3.bs.map (Blk.ren (rn [172, 169] 180))) := by kernel_rfl
theorem ceFx3_ok {xs : List Int} (hb : inB ceB3 xs) {tab : List (Nat × Obj)} (ht : ∀ w : World, (∀ p ∈ tab, w.heap[p.1]? = some p.2) → Tab w) (hg : GlobOK Tryz.prog tab globs) : letI := syL xs tab; MemoOK Tryz.prog 15 ceFx3 :=
  @memoOK_of (syL xs tab) Tryz.prog (Em ceB3) (envM hb hg _) (@idleM (syL xs tab) _ _) (hooksOKm hb ht) (@nameOK (syL xs tab)) 15 3000 180 [172, 169] ceFx3 ceFx3_run rfl rfl (by decide)
def ceH3 : List (Nat × Hook) := [(220, idxS ceB3), (21, digS ceB3), (7, digS ceB3), (15, memoH (ceFx3 :: ceF)), (30, memoH (ceMx3 :: ceM)), (6, memoH [awakeMemo])]
def ceA3 : List V := [.symI .u16 803469023445577362187461117854993183189644817756310183346146, .symI .u8 1067993517963369044535867998585335584694321612191301238662371598133846064464147286696304826122240]
theorem ceRun3 : isV (callOf (EmH ceB3 ceH3) (exec (EmH ceB3 ceH3) 3000) 4 ceA3 ⟨.leaf, 0⟩) = some (.bool true) := by kernel_rfl
theorem ceHooks3 {xs : List Int} (hb : inB ceB3 xs) {tab : List (Nat × Obj)} (ht : ∀ w : World, (∀ p ∈ tab, w.heap[p.1]? = some p.2) → Tab w) (hg : GlobOK Tryz.prog tab globs) : @HooksOK (syL xs tab) Tryz.prog (EmH ceB3 ceH3) := by
  letI := syL xs tab
  intro f g hf
  refine hooksOf_ok (l := ceH3) (fun p hp => ?_) hf
  simp only [ceH3, List.mem_cons, List.not_mem_nil, or_false] at hp
  rcases hp with rfl | rfl | rfl | rfl | rfl | rfl
  · exact idxS_ok hb
  · exact itoaS_ok hb ht
  · exact digits_ok hb
  · exact memos_ok fun m hm => by
      rcases List.mem_cons.1 hm with rfl | hm
      · exact ceFx3_ok hb ht hg
      · exact ceF_ok hg m hm
  · exact memos_ok fun m hm => by
      rcases List.mem_cons.1 hm with rfl | hm
      · exact ceMx3_ok hb ht hg
      · exact ceM_ok hg m hm
  · exact memos_ok fun m hm => by
      rw [List.mem_singleton.1 hm]
      exact awakeMemo_ok
theorem ceCase3 {a b c q d e f : Int} (hb : inB ceB3 [a, b, c, q, d, e, f]) {tab : List (Nat × Obj)} (ht : ∀ w : World, (∀ p ∈ tab, w.heap[p.1]? = some p.2) → Tab w) (hg : GlobOK Tryz.prog tab globs) (W : World) (hW : ∀ p ∈ tab, p.1 < W.heap.size ∧ W.heap[p.1]? = some p.2) (row n : Int)
    (h1 : row = -30 + 0 * a + 10 * b + 1 * c + 900 * q) (h2 : n = 100 * d + 10 * e + 1 * f) :
    Calls Tryz.prog 4 #[.int .u16 row, .int .u8 n] W fun e W' => e = .returned (.bool true) ∧ Below W.heap.size W W' := by
  letI := syL [a, b, c, q, d, e, f] tab
  obtain ⟨h', hr⟩ := isV_some ceRun3
  have R : Rel W.heap.size (fun _ => none) ⟨.leaf, 0⟩ W := Rel.none W hW
  have ra : RepL (fun _ => none) ceA3 [.int .u16 row, .int .u8 n] := by
    have d1 : decL 40 803469023445577362187461117854993183189644817756310183346146 = [-30, 0, 10, 1, 900] := by kernel_rfl
    have r1 := Rep.symI (σ := fun _ => none) .u16 803469023445577362187461117854993183189644817756310183346146
    have e1 : Sy.i 803469023445577362187461117854993183189644817756310183346146 = row := by
      show lval (decL 40 _) _ = row
      rw [d1, h1]
      simp [lval]
      try omega
    rw [e1] at r1
    have d2 : decL 40 1067993517963369044535867998585335584694321612191301238662371598133846064464147286696304826122240 = [0, 0, 0, 0, 0, 100, 10, 1] := by kernel_rfl
    have r2 := Rep.symI (σ := fun _ => none) .u8 1067993517963369044535867998585335584694321612191301238662371598133846064464147286696304826122240
    have e2 : Sy.i 1067993517963369044535867998585335584694321612191301238662371598133846064464147286696304826122240 = n := by
      show lval (decL 40 _) _ = n
      rw [d2, h2]
      simp [lval]
      try omega
    rw [e2] at r2
    exact .cons _ _ _ _ r1 (.cons _ _ _ _ r2 .nil)
  have C := @runs (syL [a, b, c, q, d, e, f] tab) Tryz.prog (EmH ceB3 ceH3) (envM hb hg _) (@idleM (syL [a, b, c, q, d, e, f] tab) _ _) (ceHooks3 hb ht hg) (@nameOK (syL [a, b, c, q, d, e, f] tab)) 4 _ Tryz.func4 (by kernel_rfl) _ _ _ _ _ hr _ _ _ _ R ra
  refine C.mono ?_
  rintro e w2 ⟨x, rfl, σ, _, _, h2, _, h4⟩
  cases h2
  exact ⟨rfl, h4⟩
end
end VM
end Go.Proofs.YtehbfpcfbpbllaaGreatDoor
