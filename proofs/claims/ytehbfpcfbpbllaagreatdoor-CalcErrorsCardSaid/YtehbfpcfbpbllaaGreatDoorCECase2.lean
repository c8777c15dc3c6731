/- CalcErrors, a shape of its first text: the kernel runs it. Written by cegen.py. -/
import Derived.Test.YtehbfpcfbpbllaaGreatDoorCEMemo
import Derived.Test.YtehbfpcfbpbllaaGreatDoorCEAwake
namespace Go.Proofs.YtehbfpcfbpbllaaGreatDoor
namespace VM
open Go Go.RowKit
set_option linter.unusedVariables false
set_option linter.unusedSectionVars false
set_option maxRecDepth 20000
noncomputable section
def ceB2 : Bs := [(0, 0), (3, 9), (0, 9), (0, 72), (0, 0), (1, 9), (0, 9)]
def ceMx2 : Memo := ⟨[.symS 9632787204454392249577366674908963010869628156121750133219125311895388396818840294745061401362073895140750670851133971109819955245457544013278526376432672591687438258039800276504051263922567269207417341209594247285151148659823716172475258336298651845768381089919744285736200662828545048244407775704846725392861408067022867331990403816924938499553723766247441088005675337308183555170292977479004825458781174380529378024710570221385030685887906194078161772046164054340076634484738535292630416827419252593873890405759447580845805933329788340903483400018018030594773012689316073395633538507069762406893314883587686455747526357992154938699827149553051165321733418187577779813885117892220988960991044702157040530780636354924145009522017434083841603982451131507303345305368964594379575227723333799915316583667255164666004432150219785838807104503615391435165904471068007836473242283435764865114928640301125307883509214089028413736447916587267744285141697864371283321880575777520763153789873425194275369611714893813912794894669263350358166078937571942485515813569740673174593378610162335470018025382898352871676267928248636375177851031277131416450323314947786094041620062156309089752978671593993805816103459348529562628956960504104750110325497565478965586427965], .bool true, []⟩
theorem ceMx2_run : look [] 104 (callOf (Em ceB2) (exec (Em ceB2) 3000) 30 ceMx2.al ⟨.leaf, 0⟩) = some (ceMx2.v.ren (rn [] 104), ceMx2.bs.map (Blk.ren (rn [] 104))) := by kernel_rfl
theorem ceMx2_ok {xs : List Int} (hb : inB ceB2 xs) {tab : List (Nat × Obj)} (ht : ∀ w : World, (∀ p ∈ tab, w.heap[p.1]? = some p.2) → Tab w) (hg : GlobOK Tryz.prog tab globs) : letI := syL xs tab; MemoOK Tryz.prog 30 ceMx2 :=
  @memoOK_of (syL xs tab) Tryz.prog (Em ceB2) (envM hb hg _) (@idleM (syL xs tab) _ _) (hooksOKm hb ht) (@nameOK (syL xs tab)) 30 3000 104 [] ceMx2 ceMx2_run rfl rfl (by decide)
def ceFx2 : Memo := ⟨[.symS 9632787204454392249577366674908963010869628156121750133219125311895388396818840294745061401362073895140750670851133971109819955245457544013278526376432672591687438258039800276504051263922567269207417341209594247285151148659823716172475258336298651845768381089919744285736200662828545048244407775704846725392861408067022867331990403816924938499553723766247441088005675337308183555170292977479004825458781174380529378024710570221385030685887906194078161772046164054340076634484738535292630416827419252593873890405759447580845805933329788340903483400018018030594773012689316073395633538507069762406893314883587686455747526357992154938699827149553051165321733418187577779813885117892220988960991044702157040530780636354924145009522017434083841603982451131507303345305368964594379575227723333799915316583667255164666004432150219785838807104503615391435165904471068007836473242283435764865114928640301125307883509214089028413736447916587267744285141697864371283321880575777520763153789873425194275369611714893813912794894669263350358166078937571942485515813569740673174593378610162335470018025382898352871676267928248636375177851031277131416450323314947786094041620062156309089752978671593993805816103459348529562628956960504104750110325497565478965586427965], .tup [.slo 0 0 3 3 14, .bool true], [.cells [.int .i64 (.ofNat 5), .int .i64 (.ofNat 0), .str [], .str [], .int .i64 (.ofNat 0), .symI .i64 730750818667445301095532483888603174574477017087, .bool false, .bool false, .str [], .int .i64 (.ofNat 0), .int .i64 (.ofNat 0), .bool false, .bool false, .nils, .int .i64 (.ofNat 1), .symI .i64 1067993517963369044535867998585335424000517186292273684466162364017585812243847908417021295984640, .str [], .str [], .int .i64 (.ofNat 0), .int .i64 (.ofNat 0), .bool false, .bool false, .str [], .int .i64 (.ofNat 0), .int .i64 (.ofNat 0), .bool false, .bool false, .nils, .int .i64 (.ofNat 16), .int .i64 (.ofNat 0), .str [], .str [], .int .i64 (.ofNat 0), .int .i64 (.ofNat 0), .bool false, .bool false, .str [], .int .i64 (.ofNat 0), .int .i64 (.ofNat 0), .bool false, .bool false, .sl 1 0 2 2] 89 false, .cells [.int .i64 (.ofNat 0), .int .i64 (.ofNat 1)] 3 false]⟩
theorem ceFx2_run : look [172, 169] 180 (callOf (Em ceB2) (exec (Em ceB2) 3000) 15 ceFx2.al ⟨.leaf, 0⟩) = some (ceFx2.v.ren (rn [172, 169] 180), ceFx2.bs.map (Blk.ren (rn [172, 169] 180))) := by kernel_rfl
theorem ceFx2_ok {xs : List Int} (hb : inB ceB2 xs) {tab : List (Nat × Obj)} (ht : ∀ w : World, (∀ p ∈ tab, w.heap[p.1]? = some p.2) → Tab w) (hg : GlobOK Tryz.prog tab globs) : letI := syL xs tab; MemoOK Tryz.prog 15 ceFx2 :=
  @memoOK_of (syL xs tab) Tryz.prog (Em ceB2) (envM hb hg _) (@idleM (syL xs tab) _ _) (hooksOKm hb ht) (@nameOK (syL xs tab)) 15 3000 180 [172, 169] ceFx2 ceFx2_run rfl rfl (by decide)
def ceH2 : List (Nat × Hook) := [(220, idxS ceB2), (21, digS ceB2), (7, digS ceB2), (15, memoH (ceFx2 :: ceF)), (30, memoH (ceMx2 :: ceM)), (6, memoH [awakeMemo])]
def ceA2 : List V := [.symI .u16 803469023445577362187461117854993183189644817756310183346146, .symI .u8 1067993517963369044535867998585335424000517186292273684466162364017585812243847908417021295984640]
theorem ceRun2 : isV (callOf (EmH ceB2 ceH2) (exec (EmH ceB2 ceH2) 3000) 4 ceA2 ⟨.leaf, 0⟩) = some (.bool true) := by kernel_rfl
theorem ceHooks2 {xs : List Int} (hb : inB ceB2 xs) {tab : List (Nat × Obj)} (ht : ∀ w : World, (∀ p ∈ tab, w.heap[p.1]? = some p.2) → Tab w) (hg : GlobOK Tryz.prog tab globs) : @HooksOK (syL xs tab) Tryz.prog (EmH ceB2 ceH2) := by
  letI := syL xs tab
  intro f g hf
  refine hooksOf_ok (l := ceH2) (fun p hp => ?_) hf
  simp only [ceH2, List.mem_cons, List.not_mem_nil, or_false] at hp
  rcases hp with rfl | rfl | rfl | rfl | rfl | rfl
  · exact idxS_ok hb
  · exact itoaS_ok hb ht
  · exact digits_ok hb
  · exact memos_ok fun m hm => by
      rcases List.mem_cons.1 hm with rfl | hm
      · exact ceFx2_ok hb ht hg
      · exact ceF_ok hg m hm
  · exact memos_ok fun m hm => by
      rcases List.mem_cons.1 hm with rfl | hm
      · exact ceMx2_ok hb ht hg
      · exact ceM_ok hg m hm
  · exact memos_ok fun m hm => by
      rw [List.mem_singleton.1 hm]
      exact awakeMemo_ok
theorem ceCase2 {a b c q d e f : Int} (hb : inB ceB2 [a, b, c, q, d, e, f]) {tab : List (Nat × Obj)} (ht : ∀ w : World, (∀ p ∈ tab, w.heap[p.1]? = some p.2) → Tab w) (hg : GlobOK Tryz.prog tab globs) (W : World) (hW : ∀ p ∈ tab, p.1 < W.heap.size ∧ W.heap[p.1]? = some p.2) (row n : Int)
    (h1 : row = -30 + 0 * a + 10 * b + 1 * c + 900 * q) (h2 : n = 0 * d + 10 * e + 1 * f) :
    Calls Tryz.prog 4 #[.int .u16 row, .int .u8 n] W fun e W' => e = .returned (.bool true) ∧ Below W.heap.size W W' := by
  letI := syL [a, b, c, q, d, e, f] tab
  obtain ⟨h', hr⟩ := isV_some ceRun2
  have R : Rel W.heap.size (fun _ => none) ⟨.leaf, 0⟩ W := Rel.none W hW
  have ra : RepL (fun _ => none) ceA2 [.int .u16 row, .int .u8 n] := by
    have d1 : decL 40 803469023445577362187461117854993183189644817756310183346146 = [-30, 0, 10, 1, 900] := by kernel_rfl
    have r1 := Rep.symI (σ := fun _ => none) .u16 803469023445577362187461117854993183189644817756310183346146
    have e1 : Sy.i 803469023445577362187461117854993183189644817756310183346146 = row := by
      show lval (decL 40 _) _ = row
      rw [d1, h1]
      simp [lval]
      try omega
    rw [e1] at r1
    have d2 : decL 40 1067993517963369044535867998585335424000517186292273684466162364017585812243847908417021295984640 = [0, 0, 0, 0, 0, 0, 10, 1] := by kernel_rfl
    have r2 := Rep.symI (σ := fun _ => none) .u8 1067993517963369044535867998585335424000517186292273684466162364017585812243847908417021295984640
    have e2 : Sy.i 1067993517963369044535867998585335424000517186292273684466162364017585812243847908417021295984640 = n := by
      show lval (decL 40 _) _ = n
      rw [d2, h2]
      simp [lval]
      try omega
    rw [e2] at r2
    exact .cons _ _ _ _ r1 (.cons _ _ _ _ r2 .nil)
  have C := @runs (syL [a, b, c, q, d, e, f] tab) Tryz.prog (EmH ceB2 ceH2) (envM hb hg _) (@idleM (syL [a, b, c, q, d, e, f] tab) _ _) (ceHooks2 hb ht hg) (@nameOK (syL [a, b, c, q, d, e, f] tab)) 4 _ Tryz.func4 (by kernel_rfl) _ _ _ _ _ hr _ _ _ _ R ra
  refine C.mono ?_
  rintro e w2 ⟨x, rfl, σ, _, _, h2, _, h4⟩
  cases h2
  exact ⟨rfl, h4⟩
end
end VM
end Go.Proofs.YtehbfpcfbpbllaaGreatDoor
