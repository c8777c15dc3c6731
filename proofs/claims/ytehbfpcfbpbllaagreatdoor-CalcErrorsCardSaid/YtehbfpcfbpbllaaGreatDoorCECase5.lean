/- CalcErrors, a shape of its first text: the kernel runs it. Written by cegen.py. -/
import Derived.Test.YtehbfpcfbpbllaaGreatDoorCEMemo
import Derived.Test.YtehbfpcfbpbllaaGreatDoorCEAwake
namespace Go.Proofs.YtehbfpcfbpbllaaGreatDoor
namespace VM
open Go Go.RowKit
set_option linter.unusedVariables false
set_option linter.unusedSectionVars false
set_option maxRecDepth 20000
noncomputable section
def ceB5 : Bs := [(1, 8), (0, 9), (0, 9), (0, 72), (0, 0), (0, 0), (1, 9)]
def ceMx5 : Memo := ⟨[.symS 9632787204454392249577366674908963010869628156121750133219125311895388396818840294745061401362073895140750670851133971109819955245457544013278526376432672591687438258039800276504051263922567269207417341207674009925366447250875742000068008902827708110736691672976853290274913093546922585933678024504481892210427487952391339448215289729749444414582773835414922659425108004586129886722603530690736509476145982334379340877811240447497215532372946756809814815649284773416537059999192223261840749419474250550583727745621866211697226567235687839665229109719716994845826347248737725456137883411338745977973214258294969716209075398886450822803976178089531334955423051620163303801627370846786362758204266811769591488636701293407333989037788433545139079375133465290964690607031766023029287430390865889001684613637336121817379986633706515954248757636478250998329119245136260715658657290036439128682344211775902242769873654367487101108420324312114536849527081365941141536353765664424672488780447491839503788651749363951880782319305630235180699395236515960130363480560650674848624820025309227166671576519839566690772282333474522621155187222726133237514362509728839763299540100085742493131907783087673773495551841421194587251606426560420840189058980623973762113470525], .bool true, []⟩
theorem ceMx5_run : look [] 104 (callOf (Em ceB5) (exec (Em ceB5) 3000) 30 ceMx5.al ⟨.leaf, 0⟩) = some (ceMx5.v.ren (rn [] 104), ceMx5.bs.map (Blk.ren (rn [] 104))) := by kernel_rfl
theorem ceMx5_ok {xs : List Int} (hb : inB ceB5 xs) {tab : List (Nat × Obj)} (ht : ∀ w : World, (∀ p ∈ tab, w.heap[p.1]? = some p.2) → Tab w) (hg : GlobOK Tryz.prog tab globs) : letI := syL xs tab; MemoOK Tryz.prog 30 ceMx5 :=
  @memoOK_of (syL xs tab) Tryz.prog (Em ceB5) (envM hb hg _) (@idleM (syL xs tab) _ _) (hooksOKm hb ht) (@nameOK (syL xs tab)) 30 3000 104 [] ceMx5 ceMx5_run rfl rfl (by decide)
def ceFx5 : Memo := ⟨[.symS 9632787204454392249577366674908963010869628156121750133219125311895388396818840294745061401362073895140750670851133971109819955245457544013278526376432672591687438258039800276504051263922567269207417341207674009925366447250875742000068008902827708110736691672976853290274913093546922585933678024504481892210427487952391339448215289729749444414582773835414922659425108004586129886722603530690736509476145982334379340877811240447497215532372946756809814815649284773416537059999192223261840749419474250550583727745621866211697226567235687839665229109719716994845826347248737725456137883411338745977973214258294969716209075398886450822803976178089531334955423051620163303801627370846786362758204266811769591488636701293407333989037788433545139079375133465290964690607031766023029287430390865889001684613637336121817379986633706515954248757636478250998329119245136260715658657290036439128682344211775902242769873654367487101108420324312114536849527081365941141536353765664424672488780447491839503788651749363951880782319305630235180699395236515960130363480560650674848624820025309227166671576519839566690772282333474522621155187222726133237514362509728839763299540100085742493131907783087673773495551841421194587251606426560420840189058980623973762113470525], .tup [.slo 0 0 3 3 14, .bool true], [.cells [.int .i64 (.ofNat 5), .int .i64 (.ofNat 0), .str [], .str [], .int .i64 (.ofNat 0), .symI .i64 730750818667445301095532483888603284525639794687, .bool false, .bool false, .str [], .int .i64 (.ofNat 0), .int .i64 (.ofNat 0), .bool false, .bool false, .nils, .int .i64 (.ofNat 1), .symI .i64 1067993517963369044535850330114687640157221353317266255281004089178617056054266692355008369786880, .str [], .str [], .int .i64 (.ofNat 0), .int .i64 (.ofNat 0), .bool false, .bool false, .str [], .int .i64 (.ofNat 0), .int .i64 (.ofNat 0), .bool false, .bool false, .nils, .int .i64 (.ofNat 16), .int .i64 (.ofNat 0), .str [], .str [], .int .i64 (.ofNat 0), .int .i64 (.ofNat 0), .bool false, .bool false, .str [], .int .i64 (.ofNat 0), .int .i64 (.ofNat 0), .bool false, .bool false, .sl 1 0 2 2] 89 false, .cells [.int .i64 (.ofNat 0), .int .i64 (.ofNat 1)] 3 false]⟩
theorem ceFx5_run : look [172, 169] 180 (callOf (Em ceB5) (exec (Em ceB5) 3000) 15 ceFx5.al ⟨.leaf, 0⟩) = some (ceFx5.v.ren (rn [172, 169] 180), ceFx5.bs.map (Blk.ren (rn [172, 169] 180))) := by kernel_rfl
theorem ceFx5_ok {xs : List Int} (hb : inB ceB5 xs) {tab : List (Nat × Obj)} (ht : ∀ w : World, (∀ p ∈ tab, w.heap[p.1]? = some p.2) → Tab w) (hg : GlobOK Tryz.prog tab globs) : letI := syL xs tab; MemoOK Tryz.prog 15 ceFx5 :=
  @memoOK_of (syL xs tab) Tryz.prog (Em ceB5) (envM hb hg _) (@idleM (syL xs tab) _ _) (hooksOKm hb ht) (@nameOK (syL xs tab)) 15 3000 180 [172, 169] ceFx5 ceFx5_run rfl rfl (by decide)
def ceH5 : List (Nat × Hook) := [(220, idxS ceB5), (21, digS ceB5), (7, digS ceB5), (15, memoH (ceFx5 :: ceF)), (30, memoH (ceMx5 :: ceM)), (6, memoH [awakeMemo])]
def ceA5 : List V := [.symI .u16 803469023445577362187461117854993183189644817866261346123746, .symI .u8 1067993517963369044535850330114687640157221353317266255281004089178617056054266692355008369786880]
theorem ceRun5 : isV (callOf (EmH ceB5 ceH5) (exec (EmH ceB5 ceH5) 3000) 4 ceA5 ⟨.leaf, 0⟩) = some (.bool true) := by kernel_rfl
theorem ceHooks5 {xs : List Int} (hb : inB ceB5 xs) {tab : List (Nat × Obj)} (ht : ∀ w : World, (∀ p ∈ tab, w.heap[p.1]? = some p.2) → Tab w) (hg : GlobOK Tryz.prog tab globs) : @HooksOK (syL xs tab) Tryz.prog (EmH ceB5 ceH5) := by
  letI := syL xs tab
  intro f g hf
  refine hooksOf_ok (l := ceH5) (fun p hp => ?_) hf
  simp only [ceH5, List.mem_cons, List.not_mem_nil, or_false] at hp
  rcases hp with rfl | rfl | rfl | rfl | rfl | rfl
  · exact idxS_ok hb
  · exact itoaS_ok hb ht
  · exact digits_ok hb
  · exact memos_ok fun m hm => by
      rcases List.mem_cons.1 hm with rfl | hm
      · exact ceFx5_ok hb ht hg
      · exact ceF_ok hg m hm
  · exact memos_ok fun m hm => by
      rcases List.mem_cons.1 hm with rfl | hm
      · exact ceMx5_ok hb ht hg
      · exact ceM_ok hg m hm
  · exact memos_ok fun m hm => by
      rw [List.mem_singleton.1 hm]
      exact awakeMemo_ok
theorem ceCase5 {a b c q d e f : Int} (hb : inB ceB5 [a, b, c, q, d, e, f]) {tab : List (Nat × Obj)} (ht : ∀ w : World, (∀ p ∈ tab, w.heap[p.1]? = some p.2) → Tab w) (hg : GlobOK Tryz.prog tab globs) (W : World) (hW : ∀ p ∈ tab, p.1 < W.heap.size ∧ W.heap[p.1]? = some p.2) (row n : Int)
    (h1 : row = -30 + 100 * a + 10 * b + 1 * c + 900 * q) (h2 : n = 0 * d + 0 * e + 1 * f) :
    Calls Tryz.prog 4 #[.int .u16 row, .int .u8 n] W fun e W' => e = .returned (.bool true) ∧ Below W.heap.size W W' := by
  letI := syL [a, b, c, q, d, e, f] tab
  obtain ⟨h', hr⟩ := isV_some ceRun5
  have R : Rel W.heap.size (fun _ => none) ⟨.leaf, 0⟩ W := Rel.none W hW
  have ra : RepL (fun _ => none) ceA5 [.int .u16 row, .int .u8 n] := by
    have d1 : decL 40 803469023445577362187461117854993183189644817866261346123746 = [-30, 100, 10, 1, 900] := by kernel_rfl
    have r1 := Rep.symI (σ := fun _ => none) .u16 803469023445577362187461117854993183189644817866261346123746
    have e1 : Sy.i 803469023445577362187461117854993183189644817866261346123746 = row := by
      show lval (decL 40 _) _ = row
      rw [d1, h1]
      simp [lval]
      try omega
    rw [e1] at r1
    have d2 : decL 40 1067993517963369044535850330114687640157221353317266255281004089178617056054266692355008369786880 = [0, 0, 0, 0, 0, 0, 0, 1] := by kernel_rfl
    have r2 := Rep.symI (σ := fun _ => none) .u8 1067993517963369044535850330114687640157221353317266255281004089178617056054266692355008369786880
    have e2 : Sy.i 1067993517963369044535850330114687640157221353317266255281004089178617056054266692355008369786880 = n := by
      show lval (decL 40 _) _ = n
      rw [d2, h2]
      simp [lval]
      try omega
    rw [e2] at r2
    exact .cons _ _ _ _ r1 (.cons _ _ _ _ r2 .nil)
  have C := @runs (syL [a, b, c, q, d, e, f] tab) Tryz.prog (EmH ceB5 ceH5) (envM hb hg _) (@idleM (syL [a, b, c, q, d, e, f] tab) _ _) (ceHooks5 hb ht hg) (@nameOK (syL [a, b, c, q, d, e, f] tab)) 4 _ Tryz.func4 (by kernel_rfl) _ _ _ _ _ hr _ _ _ _ R ra
  refine C.mono ?_
  rintro e w2 ⟨x, rfl, σ, _, _, h2, _, h4⟩
  cases h2
  exact ⟨rfl, h4⟩
end
end VM
end Go.Proofs.YtehbfpcfbpbllaaGreatDoor
