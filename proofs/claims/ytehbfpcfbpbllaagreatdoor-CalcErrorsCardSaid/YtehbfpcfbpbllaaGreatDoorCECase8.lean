/- CalcErrors, a shape of its first text: the kernel runs it. Written by cegen.py. -/
import Derived.Test.YtehbfpcfbpbllaaGreatDoorCEMemo
import Derived.Test.YtehbfpcfbpbllaaGreatDoorCEAwake
namespace Go.Proofs.YtehbfpcfbpbllaaGreatDoor
namespace VM
open Go Go.RowKit
set_option linter.unusedVariables false
set_option linter.unusedSectionVars false
set_option maxRecDepth 20000
noncomputable section
def ceB8 : Bs := [(0, 0), (0, 2), (0, 9), (0, 72), (0, 0), (0, 0), (0, 0)]
def ceMx8 : Memo := ⟨[.symS 4958532688621380046654024133725242533028533548380244894176470174469269702832358071047343809740789632508013327573331825343559915139234604618837394716428226492996426035677542752655089306947347342938557276273854947370537013088251344890070184464607765271607006322200594304332768425873600724626413617589126055939249473453258314629447572641703120349898509476958957383771818418515165877928482422895586457173734286396330267103439596901368346649049518914471883384252300671906351755553153972337235148514865453141354055690012178355416194693098388826101588031004061389860000652487410226292775139068515696323212687828030041698849248919053355725929691295866732188065448271599417683270970626662783522780606420150128634083892670764113553472244353755870929837637774618313737448274291710343280430145577296200279814478912457972671516102808861907898614860174343181088276606957032834938040651517282055730369062784818657923549761056230711553377272901241918151602295403103023298702755899256668377170313475914774558027354183318636044936901813841214794271136307513123424781033965854758074505898758126504265886982478202804385209160081665274287016954234335249932331895744476071835051451264008253], .bool true, []⟩
theorem ceMx8_run : look [] 104 (callOf (Em ceB8) (exec (Em ceB8) 3000) 30 ceMx8.al ⟨.leaf, 0⟩) = some (ceMx8.v.ren (rn [] 104), ceMx8.bs.map (Blk.ren (rn [] 104))) := by kernel_rfl
theorem ceMx8_ok {xs : List Int} (hb : inB ceB8 xs) {tab : List (Nat × Obj)} (ht : ∀ w : World, (∀ p ∈ tab, w.heap[p.1]? = some p.2) → Tab w) (hg : GlobOK Tryz.prog tab globs) : letI := syL xs tab; MemoOK Tryz.prog 30 ceMx8 :=
  @memoOK_of (syL xs tab) Tryz.prog (Em ceB8) (envM hb hg _) (@idleM (syL xs tab) _ _) (hooksOKm hb ht) (@nameOK (syL xs tab)) 30 3000 104 [] ceMx8 ceMx8_run rfl rfl (by decide)
def ceFx8 : Memo := ⟨[.symS 4958532688621380046654024133725242533028533548380244894176470174469269702832358071047343809740789632508013327573331825343559915139234604618837394716428226492996426035677542752655089306947347342938557276273854947370537013088251344890070184464607765271607006322200594304332768425873600724626413617589126055939249473453258314629447572641703120349898509476958957383771818418515165877928482422895586457173734286396330267103439596901368346649049518914471883384252300671906351755553153972337235148514865453141354055690012178355416194693098388826101588031004061389860000652487410226292775139068515696323212687828030041698849248919053355725929691295866732188065448271599417683270970626662783522780606420150128634083892670764113553472244353755870929837637774618313737448274291710343280430145577296200279814478912457972671516102808861907898614860174343181088276606957032834938040651517282055730369062784818657923549761056230711553377272901241918151602295403103023298702755899256668377170313475914774558027354183318636044936901813841214794271136307513123424781033965854758074505898758126504265886982478202804385209160081665274287016954234335249932331895744476071835051451264008253], .tup [.slo 0 0 3 3 14, .bool true], [.cells [.int .i64 (.ofNat 5), .int .i64 (.ofNat 0), .str [], .str [], .int .i64 (.ofNat 0), .symI .i64 730750818667445301095532483888603174574477017987, .bool false, .bool false, .str [], .int .i64 (.ofNat 0), .int .i64 (.ofNat 0), .bool false, .bool false, .nils, .int .i64 (.ofNat 1), .int .i64 (.ofNat 0), .str [], .str [], .int .i64 (.ofNat 0), .int .i64 (.ofNat 0), .bool false, .bool false, .str [], .int .i64 (.ofNat 0), .int .i64 (.ofNat 0), .bool false, .bool false, .nils, .int .i64 (.ofNat 16), .int .i64 (.ofNat 0), .str [], .str [], .int .i64 (.ofNat 0), .int .i64 (.ofNat 0), .bool false, .bool false, .str [], .int .i64 (.ofNat 0), .int .i64 (.ofNat 0), .bool false, .bool false, .sl 1 0 2 2] 89 false, .cells [.int .i64 (.ofNat 0), .int .i64 (.ofNat 1)] 3 false]⟩
theorem ceFx8_run : look [172, 169] 180 (callOf (Em ceB8) (exec (Em ceB8) 3000) 15 ceFx8.al ⟨.leaf, 0⟩) = some (ceFx8.v.ren (rn [172, 169] 180), ceFx8.bs.map (Blk.ren (rn [172, 169] 180))) := by kernel_rfl
theorem ceFx8_ok {xs : List Int} (hb : inB ceB8 xs) {tab : List (Nat × Obj)} (ht : ∀ w : World, (∀ p ∈ tab, w.heap[p.1]? = some p.2) → Tab w) (hg : GlobOK Tryz.prog tab globs) : letI := syL xs tab; MemoOK Tryz.prog 15 ceFx8 :=
  @memoOK_of (syL xs tab) Tryz.prog (Em ceB8) (envM hb hg _) (@idleM (syL xs tab) _ _) (hooksOKm hb ht) (@nameOK (syL xs tab)) 15 3000 180 [172, 169] ceFx8 ceFx8_run rfl rfl (by decide)
def ceH8 : List (Nat × Hook) := [(220, idxS ceB8), (21, digS ceB8), (7, digS ceB8), (15, memoH (ceFx8 :: ceF)), (30, memoH (ceMx8 :: ceM)), (6, memoH [awakeMemo])]
def ceA8 : List V := [.symI .u16 803469023445577362187461117854993183189644817756310183347046, .int .u8 0]
theorem ceRun8 : isV (callOf (EmH ceB8 ceH8) (exec (EmH ceB8 ceH8) 3000) 4 ceA8 ⟨.leaf, 0⟩) = some (.bool true) := by kernel_rfl
theorem ceHooks8 {xs : List Int} (hb : inB ceB8 xs) {tab : List (Nat × Obj)} (ht : ∀ w : World, (∀ p ∈ tab, w.heap[p.1]? = some p.2) → Tab w) (hg : GlobOK Tryz.prog tab globs) : @HooksOK (syL xs tab) Tryz.prog (EmH ceB8 ceH8) := by
  letI := syL xs tab
  intro f g hf
  refine hooksOf_ok (l := ceH8) (fun p hp => ?_) hf
  simp only [ceH8, List.mem_cons, List.not_mem_nil, or_false] at hp
  rcases hp with rfl | rfl | rfl | rfl | rfl | rfl
  · exact idxS_ok hb
  · exact itoaS_ok hb ht
  · exact digits_ok hb
  · exact memos_ok fun m hm => by
      rcases List.mem_cons.1 hm with rfl | hm
      · exact ceFx8_ok hb ht hg
      · exact ceF_ok hg m hm
  · exact memos_ok fun m hm => by
      rcases List.mem_cons.1 hm with rfl | hm
      · exact ceMx8_ok hb ht hg
      · exact ceM_ok hg m hm
  · exact memos_ok fun m hm => by
      rw [List.mem_singleton.1 hm]
      exact awakeMemo_ok
theorem ceCase8 {a b c q d e f : Int} (hb : inB ceB8 [a, b, c, q, d, e, f]) {tab : List (Nat × Obj)} (ht : ∀ w : World, (∀ p ∈ tab, w.heap[p.1]? = some p.2) → Tab w) (hg : GlobOK Tryz.prog tab globs) (W : World) (hW : ∀ p ∈ tab, p.1 < W.heap.size ∧ W.heap[p.1]? = some p.2) (row n : Int)
    (h1 : row = 870 + 0 * a + 10 * b + 1 * c + 900 * q) (h2 : n = 0) :
    Calls Tryz.prog 4 #[.int .u16 row, .int .u8 n] W fun e W' => e = .returned (.bool true) ∧ Below W.heap.size W W' := by
  letI := syL [a, b, c, q, d, e, f] tab
  obtain ⟨h', hr⟩ := isV_some ceRun8
  have R : Rel W.heap.size (fun _ => none) ⟨.leaf, 0⟩ W := Rel.none W hW
  have ra : RepL (fun _ => none) ceA8 [.int .u16 row, .int .u8 n] := by
    have d1 : decL 40 803469023445577362187461117854993183189644817756310183347046 = [870, 0, 10, 1, 900] := by kernel_rfl
    have r1 := Rep.symI (σ := fun _ => none) .u16 803469023445577362187461117854993183189644817756310183347046
    have e1 : Sy.i 803469023445577362187461117854993183189644817756310183347046 = row := by
      show lval (decL 40 _) _ = row
      rw [d1, h1]
      simp [lval]
      try omega
    rw [e1] at r1
    subst h2
    exact .cons _ _ _ _ r1 (.cons _ _ _ _ (.int _ _) .nil)
  have C := @runs (syL [a, b, c, q, d, e, f] tab) Tryz.prog (EmH ceB8 ceH8) (envM hb hg _) (@idleM (syL [a, b, c, q, d, e, f] tab) _ _) (ceHooks8 hb ht hg) (@nameOK (syL [a, b, c, q, d, e, f] tab)) 4 _ Tryz.func4 (by kernel_rfl) _ _ _ _ _ hr _ _ _ _ R ra
  refine C.mono ?_
  rintro e w2 ⟨x, rfl, σ, _, _, h2, _, h4⟩
  cases h2
  exact ⟨rfl, h4⟩
end
end VM
end Go.Proofs.YtehbfpcfbpbllaaGreatDoor
