/- CalcErrors, a shape of its first text: the kernel runs it. Written by cegen.py. -/
import Derived.Test.YtehbfpcfbpbllaaGreatDoorCEMemo
import Derived.Test.YtehbfpcfbpbllaaGreatDoorCEAwake
namespace Go.Proofs.YtehbfpcfbpbllaaGreatDoor
namespace VM
open Go Go.RowKit
set_option linter.unusedVariables false
set_option linter.unusedSectionVars false
set_option maxRecDepth 20000
noncomputable section
def ceB0 : Bs := [(0, 0), (3, 9), (0, 9), (0, 72), (0, 0), (0, 0), (0, 0)]
def ceMx0 : Memo := ⟨[.symS 1086815830428411345483585995379571072107616967674762945008808379905617600593520593696111731965456535504810634283948627016972290239948827695114675298103116392382672226340480190131126326173224822618057035705723476029313484148166127589449283622905239113405215139198138691971728122103936678522741352165009982701553832432585184002670996009848298553805226438716446463924229950200083770951795255910178198892025234660417734615196591909936121300950321456288617026584700843191996515626707244054700923522371281974480496823310797691554670645225101371547312481013967691286095483952723617759476665732166055218487552819941511835142203599050281572314170183326587270767526011055795289291042403053654789324968852797940633955407213833958194647030112301393172800041404506752677307465430720796429705485228703916916055804288572733456420288604105893654324207111617203036581134507229474833400300946400048828255284074939597942159090087659745442277857836395440539918691056771483148238810587683956457533], .bool true, []⟩
theorem ceMx0_run : look [] 104 (callOf (Em ceB0) (exec (Em ceB0) 3000) 30 ceMx0.al ⟨.leaf, 0⟩) = some (ceMx0.v.ren (rn [] 104), ceMx0.bs.map (Blk.ren (rn [] 104))) := by kernel_rfl
theorem ceMx0_ok {xs : List Int} (hb : inB ceB0 xs) {tab : List (Nat × Obj)} (ht : ∀ w : World, (∀ p ∈ tab, w.heap[p.1]? = some p.2) → Tab w) (hg : GlobOK Tryz.prog tab globs) : letI := syL xs tab; MemoOK Tryz.prog 30 ceMx0 :=
  @memoOK_of (syL xs tab) Tryz.prog (Em ceB0) (envM hb hg _) (@idleM (syL xs tab) _ _) (hooksOKm hb ht) (@nameOK (syL xs tab)) 30 3000 104 [] ceMx0 ceMx0_run rfl rfl (by decide)
def ceFx0 : Memo := ⟨[.symS 1086815830428411345483585995379571072107616967674762945008808379905617600593520593696111731965456535504810634283948627016972290239948827695114675298103116392382672226340480190131126326173224822618057035705723476029313484148166127589449283622905239113405215139198138691971728122103936678522741352165009982701553832432585184002670996009848298553805226438716446463924229950200083770951795255910178198892025234660417734615196591909936121300950321456288617026584700843191996515626707244054700923522371281974480496823310797691554670645225101371547312481013967691286095483952723617759476665732166055218487552819941511835142203599050281572314170183326587270767526011055795289291042403053654789324968852797940633955407213833958194647030112301393172800041404506752677307465430720796429705485228703916916055804288572733456420288604105893654324207111617203036581134507229474833400300946400048828255284074939597942159090087659745442277857836395440539918691056771483148238810587683956457533], .tup [.slo 0 0 3 3 14, .bool true], [.cells [.int .i64 (.ofNat 5), .int .i64 (.ofNat 0), .str [], .str [], .int .i64 (.ofNat 0), .symI .i64 730750818667445301095532483888603174574477017087, .bool false, .bool false, .str [], .int .i64 (.ofNat 0), .int .i64 (.ofNat 0), .bool false, .bool false, .nils, .int .i64 (.ofNat 1), .int .i64 (.ofNat 0), .str [], .str [], .int .i64 (.ofNat 0), .int .i64 (.ofNat 0), .bool false, .bool false, .str [], .int .i64 (.ofNat 0), .int .i64 (.ofNat 0), .bool false, .bool false, .nils, .int .i64 (.ofNat 16), .int .i64 (.ofNat 0), .str [], .str [], .int .i64 (.ofNat 0), .int .i64 (.ofNat 0), .bool false, .bool false, .str [], .int .i64 (.ofNat 0), .int .i64 (.ofNat 0), .bool false, .bool false, .sl 1 0 2 2] 89 false, .cells [.int .i64 (.ofNat 0), .int .i64 (.ofNat 1)] 3 false]⟩
theorem ceFx0_run : look [172, 169] 180 (callOf (Em ceB0) (exec (Em ceB0) 3000) 15 ceFx0.al ⟨.leaf, 0⟩) = some (ceFx0.v.ren (rn [172, 169] 180), ceFx0.bs.map (Blk.ren (rn [172, 169] 180))) := by kernel_rfl
theorem ceFx0_ok {xs : List Int} (hb : inB ceB0 xs) {tab : List (Nat × Obj)} (ht : ∀ w : World, (∀ p ∈ tab, w.heap[p.1]? = some p.2) → Tab w) (hg : GlobOK Tryz.prog tab globs) : letI := syL xs tab; MemoOK Tryz.prog 15 ceFx0 :=
  @memoOK_of (syL xs tab) Tryz.prog (Em ceB0) (envM hb hg _) (@idleM (syL xs tab) _ _) (hooksOKm hb ht) (@nameOK (syL xs tab)) 15 3000 180 [172, 169] ceFx0 ceFx0_run rfl rfl (by decide)
def ceH0 : List (Nat × Hook) := [(220, idxS ceB0), (21, digS ceB0), (7, digS ceB0), (15, memoH (ceFx0 :: ceF)), (30, memoH (ceMx0 :: ceM)), (6, memoH [awakeMemo])]
def ceA0 : List V := [.symI .u16 803469023445577362187461117854993183189644817756310183346146, .int .u8 0]
theorem ceRun0 : isV (callOf (EmH ceB0 ceH0) (exec (EmH ceB0 ceH0) 3000) 4 ceA0 ⟨.leaf, 0⟩) = some (.bool true) := by kernel_rfl
theorem ceHooks0 {xs : List Int} (hb : inB ceB0 xs) {tab : List (Nat × Obj)} (ht : ∀ w : World, (∀ p ∈ tab, w.heap[p.1]? = some p.2) → Tab w) (hg : GlobOK Tryz.prog tab globs) : @HooksOK (syL xs tab) Tryz.prog (EmH ceB0 ceH0) := by
  letI := syL xs tab
  intro f g hf
  refine hooksOf_ok (l := ceH0) (fun p hp => ?_) hf
  simp only [ceH0, List.mem_cons, List.not_mem_nil, or_false] at hp
  rcases hp with rfl | rfl | rfl | rfl | rfl | rfl
  · exact idxS_ok hb
  · exact itoaS_ok hb ht
  · exact digits_ok hb
  · exact memos_ok fun m hm => by
      rcases List.mem_cons.1 hm with rfl | hm
      · exact ceFx0_ok hb ht hg
      · exact ceF_ok hg m hm
  · exact memos_ok fun m hm => by
      rcases List.mem_cons.1 hm with rfl | hm
      · exact ceMx0_ok hb ht hg
      · exact ceM_ok hg m hm
  · exact memos_ok fun m hm => by
      rw [List.mem_singleton.1 hm]
      exact awakeMemo_ok
theorem ceCase0 {a b c q d e f : Int} (hb : inB ceB0 [a, b, c, q, d, e, f]) {tab : List (Nat × Obj)} (ht : ∀ w : World, (∀ p ∈ tab, w.heap[p.1]? = some p.2) → Tab w) (hg : GlobOK Tryz.prog tab globs) (W : World) (hW : ∀ p ∈ tab, p.1 < W.heap.size ∧ W.heap[p.1]? = some p.2) (row n : Int)
    (h1 : row = -30 + 0 * a + 10 * b + 1 * c + 900 * q) (h2 : n = 0) :
    Calls Tryz.prog 4 #[.int .u16 row, .int .u8 n] W fun e W' => e = .returned (.bool true) ∧ Below W.heap.size W W' := by
  letI := syL [a, b, c, q, d, e, f] tab
  obtain ⟨h', hr⟩ := isV_some ceRun0
  have R : Rel W.heap.size (fun _ => none) ⟨.leaf, 0⟩ W := Rel.none W hW
  have ra : RepL (fun _ => none) ceA0 [.int .u16 row, .int .u8 n] := by
    have d1 : decL 40 803469023445577362187461117854993183189644817756310183346146 = [-30, 0, 10, 1, 900] := by kernel_rfl
    have r1 := Rep.symI (σ := fun _ => none) .u16 803469023445577362187461117854993183189644817756310183346146
    have e1 : Sy.i 803469023445577362187461117854993183189644817756310183346146 = row := by
      show lval (decL 40 _) _ = row
      rw [d1, h1]
      simp [lval]
      try omega
    rw [e1] at r1
    subst h2
    exact .cons _ _ _ _ r1 (.cons _ _ _ _ (.int _ _) .nil)
  have C := @runs (syL [a, b, c, q, d, e, f] tab) Tryz.prog (EmH ceB0 ceH0) (envM hb hg _) (@idleM (syL [a, b, c, q, d, e, f] tab) _ _) (ceHooks0 hb ht hg) (@nameOK (syL [a, b, c, q, d, e, f] tab)) 4 _ Tryz.func4 (by kernel_rfl) _ _ _ _ _ hr _ _ _ _ R ra
  refine C.mono ?_
  rintro e w2 ⟨x, rfl, σ, _, _, h2, _, h4⟩
  cases h2
  exact ⟨rfl, h4⟩
end
end VM
end Go.Proofs.YtehbfpcfbpbllaaGreatDoor
