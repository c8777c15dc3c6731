/- The walk of AlignGone. Written by gonegen.py. -/
import Derived.Test.YthoccmgfpjfkoaaGoneStep
namespace Go.Proofs.Ythoccmgfpjfkoaa
open Go.RowKit

theorem run_min2 {P : Program} (ts : Array TypeId) (t : TypeId) (k k' : IntKind) (x y : Int) (w : World) : (Builtin.min_ ts t #[.int k x, .int k' y]).run P w = .ok (.int k (min x y)) w := by
  rw [run_min_int2]
  congr 2
  split <;> omega
def insOf (i j put r : Nat) (cb : List Nat) : List Nat := cb ++ (if r = put ∧ (put < i ∨ j < put) then [1000] else [])
theorem goneStep_eq (k i j put r : Nat) (cb : List Nat) (cw : List Int) : goneStep k i j put (cb, cw) r =
    if r = k then (insOf i j put r cb, cw) else if i ≤ r ∧ r < j then (insOf i j put r cb, cw ++ [-1]) else (insOf i j put r cb ++ [r], cw ++ [((insOf i j put r cb).length : Int)]) := rfl
def GRel (w : World) (SA SB k i j put : Nat) (r : Nat) (vw : Value) (wr : World) : Prop :=
  ∃ va vb ra rb cb cw, gone k i j put r = (cb, cw) ∧ GSt w SA SB va vb vw ra rb cw wr ∧ OfCodes ra (List.range r) ∧ OfCodes rb cb

set_option maxRecDepth 100000 in
set_option maxHeartbeats 4000000 in
theorem alignGone_walk (w : World) (n0 f0 m0 p0 : Int) (h1 : (Lit.int .u8 n0).wf = true) (h2 : (Lit.int .u8 f0).wf = true) (h3 : (Lit.int .u8 m0).wf = true) (h4 : (Lit.int .u8 p0).wf = true) :
    Calls Try.prog 3 #[.int .u8 n0, .int .u8 f0, .int .u8 m0, .int .u8 p0] w fun e w' => e = .returned (.bool true) ∧ Below w.heap.size w w' := by
  have hmin := @run_min2 Try.prog
  have nat8 : ∀ z : Int, (Lit.int .u8 z).wf = true → ∃ q : Nat, z = (q : Int) ∧ q < 256 := fun z h => by
    simp [Lit.wf, IntKind.min, IntKind.max, IntKind.signed, IntKind.bits] at h; exact ⟨z.toNat, by omega, by omega⟩
  have wr8 : ∀ q : Nat, q < 256 → IntKind.i64.wrap (q : Int) = q := fun q h => by simp [IntKind.wrap, IntKind.signed, IntKind.bits]; omega
  obtain ⟨n, rfl, hn⟩ := nat8 n0 h1
  obtain ⟨f, rfl, hf⟩ := nat8 f0 h2
  obtain ⟨m, rfl, hm⟩ := nat8 m0 h3
  obtain ⟨p, rfl, hp⟩ := nat8 p0 h4
  have e1 := wr8 n hn
  have e2 := wr8 f hf
  have e3 := wr8 m hm
  have e4 := wr8 p hp
  clear h1 h2 h3 h4 nat8 wr8
  obtain ⟨k, hk⟩ : ∃ k : Nat, k = 4 + n % 8 := ⟨_, rfl⟩
  obtain ⟨i, hi⟩ : ∃ i : Nat, i = f % k := ⟨_, rfl⟩
  obtain ⟨c, hc⟩ : ∃ c : Nat, c = m % 4 := ⟨_, rfl⟩
  obtain ⟨j, hj⟩ : ∃ j : Nat, j = min k (i + c) := ⟨_, rfl⟩
  obtain ⟨put, hput⟩ : ∃ put : Nat, put = p % (k + 1) := ⟨_, rfl⟩
  have hk4 : 4 ≤ k := by omega
  have hk12 : k < 12 := by omega
  have hik : i < k := by rw [hi]; exact Nat.mod_lt _ (by omega)
  have hc4 : c < 4 := by omega
  have hpk : put < k + 1 := by rw [hput]; exact Nat.mod_lt _ (by omega)
  have hlaw := gone_rows hk12 hk4 hik hc4 hpk
  rw [← hj] at hlaw
  have HLAW := Lib.hid hlaw
  clear hlaw
  have q1 : 4 + (n : Int) % 8 = (k : Int) := by omega
  have q2 : (f : Int) % (k : Int) = (i : Int) := by rw [hi]; simp
  have q3 : (m : Int) % 4 = (c : Int) := by omega
  have q4 : min (k : Int) ((i : Int) + (c : Int)) = (j : Int) := by omega
  have q5 : (p : Int) % ((k : Int) + 1) = (put : Int) := by rw [hput]; simp
  have k0 : ¬ ((k : Int) = 0) := by omega
  have k1 : ¬ ((k : Int) + 1 = 0) := by omega
  have Q2 := Lib.hid q2
  have Q5 := Lib.hid q5
  clear hk hi hc hj hput
  go_enter Try.func3, Try.ntmps3
  go_wp2
  rw [Q2.out, Q5.out]
  obtain ⟨SA, hSA⟩ : ∃ SA, w.heap.size = SA := ⟨_, rfl⟩
  obtain ⟨SB, hSB⟩ : ∃ SB, w.heap.size + 1 = SB := ⟨_, rfl⟩
  obtain ⟨W, hW⟩ : ∃ W, W = (w.alloc (.cells #[.string ⟨#[65]⟩, .int .i64 1, .slice none 0 0] 24)).alloc (.cells #[.string ⟨#[65]⟩, .int .i64 1, .slice none 0 0] 24) := ⟨_, rfl⟩
  have F0 : GSt w SA SB (.slice none 0 0) (.slice none 0 0) (.slice none 0 0) [] [] [] W := by
    have s1 := heap_alloc_new w (.cells #[.string ⟨#[65]⟩, .int .i64 1, .slice none 0 0] 24)
    have s2 := heap_alloc_new (w.alloc (.cells #[.string ⟨#[65]⟩, .int .i64 1, .slice none 0 0] 24)) (.cells #[.string ⟨#[65]⟩, .int .i64 1, .slice none 0 0] 24)
    rw [World.size_alloc, hSB] at s2
    refine ⟨?_, by rw [hW]; exact s2, World.ownsRow_nil _ _ _ _, World.ownsRow_nil _ _ _ _, World.ownsRow_nil _ _ _ _, Apart.nil _, fun x hx => by simp at hx, by rw [hW]; exact ((Below.refl _ _).alloc (Nat.le_refl _) _).alloc (by simp) _, by omega⟩
    rw [hW, ← hSA]
    exact (Below.heap_alloc _ _ _ (by simp)).trans s1
  rw [← hW, hSB, hSA]
  clear hSA hSB q1 q2 q3 q4 q5 e1 e2 e3 e4
  go_loopw [15, 16] (fun vw i' wr => ∃ r : Nat, r ≤ k ∧ i' = .int .i64 r ∧ Hid (GRel w SA SB k i j put r vw wr)) (fun _ i' _ => k + 1 - (intOf i').toNat)
  case atStart => exact ⟨0, Nat.zero_le _, rfl, ⟨_, _, [], [], [], [], rfl, F0, rfl, rfl⟩⟩
  case round =>
    clear F0 hW
    obtain ⟨r, hr, rfl, hG⟩ := hrel
    obtain ⟨va, vb, ra, rb, cb, cw, hgs, F, oa, ob⟩ := hG.out
    clear hG
    have hlen := gone_len k i j put r
    have hS := gone_succ k i j put r
    have hla := oa.len
    rw [List.length_range] at hla
    have hlb := ob.len
    have hr12 : r < 12 := by omega
    have hlr : (r : Int) ≤ (k : Int) := by omega
    rw [hgs] at hlen hS
    have HGS := Lib.hid hgs
    have HS := Lib.hid hS
    clear hS
    clear hgs
    dsimp only at hlen
    have hlw : cw.length ≤ 12 := by omega
    have hal : ra.length ≤ 12 := by omega
    have hbl : rb.length ≤ 24 := by omega
    have HLB := Lib.hid hlb
    clear hla hlb hlen
    obtain ⟨Aa, ca, rfl, _⟩ := own_form F.oa
    obtain ⟨Ab, cb', rfl, _⟩ := own_form F.ob
    obtain ⟨Aw, cw', rfl, _⟩ := own_form F.ow
    obtain ⟨z0, z1, z2, z3, z4, z5⟩ := F.facts
    by_cases hin : r = put ∧ (put < i ∨ j < put)
    · obtain ⟨rfl, hor⟩ := hin
      by_cases hlt : r < i
      · have t1 : (r : Int) < (i : Int) := by omega
        by_cases hrk : r = k
        · exfalso; omega
        · have t9 : ¬ ((r : Int) = (k : Int)) := by omega
          go_wp2_with (at_builtin; refine wpList_app1 eRow rfl rfl (F.lay (.cells #[.string inText] 9)).ob rfl rfl (by first | rfl | simp) rfl (by omega) (F.lay _).below.size ?_; intro v1 w1 hown1 hg1 hk1; obtain ⟨F1, y0, y1⟩ := F.appB1 hown1 hg1 hk1; obtain ⟨A1, c1, rfl, _⟩ := own_form hown1)
          have ob2 : OfCodes (rb ++ [⟨some ⟨wr.heap.size, 0, none⟩, [⟨#[39, 105, 110]⟩], 1⟩]) (cb ++ [1000]) := ob.snoc (c := 1000)
          have hbl2 : (rb ++ [(⟨some ⟨wr.heap.size, 0, none⟩, [⟨#[39, 105, 110]⟩], 1⟩ : SRow)]).length ≤ 25 := by simp; omega
          generalize w1.setCell ⟨SB, 2, none⟩ (.slice A1 (rb.length + 1) c1) = wq at *
          generalize hvv : (Value.slice A1 (rb.length + 1) c1) = vv at *
          generalize rb ++ [(⟨some ⟨wr.heap.size, 0, none⟩, [⟨#[39, 105, 110]⟩], 1⟩ : SRow)] = rb2 at *
          generalize hcb2 : cb ++ [1000] = cb2 at *
          have HB : Hid (insOf i j r r cb = cb2) := by unfold insOf; rw [if_pos ⟨rfl, by omega⟩]; exact hcb2
          clear hown1 hg1 hk1 y0 y1 hvv F ob z0 z1 z2 z3 z4 z5 hcb2 HLB
          obtain ⟨Ab2, cb2', rfl, _⟩ := own_form F1.ob
          have hrk1 : r < k := by omega
          obtain ⟨x0, x1, x2, x3, x4, x5⟩ := (F1.drew).facts
          refine wp_region_tree [7, 9] (.free 0 (.free 1 (.free 2 (.free 3 (.eff 4 (.eff 5 (.eff 6 (.last 7 (.last 8 (.last 9 .nil)))))))))) (by kernel_rfl) (by kernel_rfl) (fun _ _ d _ _ h => by cases d <;> exact h) ?_
          conv => arg 4; whnf
          conv => arg 4; arg 1; whnf
          refine pt_free (by rfl) (fun K hK => ?_)
          go_big_quiet_op
          first | (refine hK _ ?_; clear hK K) | (refine ⟨_, fun _ _ => rfl, hK _ ?_⟩; clear hK K)
          conv => arg 4; whnf
          conv => arg 4; arg 1; whnf
          refine pt_load (fun W h => load_rows _ _ W h) (p := ⟨SA, 2, none⟩) x0 x4 (by rfl) rfl rfl ?_
          simp only [Act.put, List.setIfInBounds_toArray, List.set_cons_zero, List.set_cons_succ]
          conv => arg 4; whnf
          conv => arg 4; arg 1; whnf
          refine pt_free (by rfl) (fun K hK => ?_)
          go_big_quiet_op
          first | (refine hK _ ?_; clear hK K) | (refine ⟨_, fun _ _ => rfl, hK _ ?_⟩; clear hK K)
          conv => arg 4; whnf
          conv => arg 4; arg 1; whnf
          refine pt_free (by rfl) (fun K hK => ?_)
          go_big_quiet_op
          first | (refine hK _ ?_; clear hK K) | (refine ⟨_, fun _ _ => rfl, hK _ ?_⟩; clear hK K)
          conv => arg 4; whnf
          conv => arg 4; arg 1; whnf
          refine pt_eff (by rfl) (fun K hK => ?_)
          go_wp2_with fail
          refine (digits_rd _ (100 + r) _ (by omega) (by omega)).mono ?_
          rintro e w4 ⟨rfl, hb4⟩
          refine hK _ _ hb4 ?_
          clear hK K
          have F4 := (F1.drew).keep hb4
          clear hb4 x0 x1 x2 x3 x4 x5
          rw [← rowText_of hr12]
          conv => arg 4; whnf
          conv => arg 4; arg 1; whnf
          refine pt_eff (by rfl) (fun K hK => ?_)
          go_wp2
          refine hK _ _ ((Below.refl _ _).alloc (Nat.le_refl _) _) ?_
          clear hK K
          conv => arg 4; whnf
          conv => arg 4; arg 1; whnf
          refine pt_eff (by rfl) (fun K hK => ?_)
          go_wp2
          refine hK _ _ ((Below.refl _ _).alloc (Nat.le_refl _) _) ?_
          clear hK K
          conv => arg 4; whnf
          conv => arg 4; arg 1; whnf
          refine pt_last (by rfl) (fun K hK => ?_)
          refine wp_app1 eRow (by rfl) (F4.lay (.cells #[.string (rowText r)] 9)).oa (by rfl) (by rfl) (by rw [World.size_alloc]) rfl (by omega) (F4.lay _).below.size (fun v1 w1 hown1 hg1 hk1 => ?_)
          obtain ⟨F5, y0, y1⟩ := F4.appA1 hown1 hg1 hk1
          obtain ⟨A1, c1, rfl, _⟩ := own_form hown1
          refine hK _ _ ?_
          clear hK K
          simp only [Act.put, List.setIfInBounds_toArray, List.set_cons_zero, List.set_cons_succ]
          conv => arg 4; whnf
          conv => arg 4; arg 1; whnf
          refine pt_last (by rfl) (fun K hK => ?_)
          go_wp2
          conv => arg 4; whnf
          conv => arg 4; arg 1; whnf
          refine pt_last (by rfl) (fun K hK => ?_)
          go_wp2
          refine pt_nil ?_
          generalize w1.setCell ⟨SA, 2, none⟩ (.slice A1 (ra.length + 1) c1) = wq at *
          generalize hvv : (Value.slice A1 (ra.length + 1) c1) = vv at *
          clear hown1 hg1 hk1 y0 y1 hvv F4
          have oa2 : OfCodes (ra ++ [⟨some ⟨w4.heap.size, 0, none⟩, [rowText r], 1⟩]) (List.range (r + 1)) := by rw [List.range_succ]; exact oa.snoc
          generalize ra ++ [(⟨some ⟨w4.heap.size, 0, none⟩, [rowText r], 1⟩ : SRow)] = ra2 at *
          clear oa
          obtain ⟨Aa2, ca2, rfl, _⟩ := own_form F5.oa
          obtain ⟨z0, z1, z2, z3, z4, z5⟩ := F5.facts
          by_cases t5 : (i : Int) ≤ (r : Int)
          · by_cases t6 : (r : Int) < (j : Int)
            · skip
              exfalso; omega
            · skip
              exfalso; omega
          · skip
            go_wp2_with (at_builtin; refine wpList_app1 eInt rfl rfl F5.ow rfl rfl (by first | rfl | simp) rfl (by omega) F5.below.size ?_; intro v1 w1 hown1 hg1 hk1; have F6 := F5.appendW hown1 hg1; obtain ⟨y0, y1, y2, y3, y4, y5⟩ := F6.facts)
            clear y0 y1 y2 y3 y4 y5 z0 z1 z2 z3 z4 z5
            obtain ⟨Aw2, cw2, rfl, _⟩ := own_form F6.ow
            obtain ⟨x0, x1, x2, x3, x4, x5⟩ := (F6.drew).facts
            refine wp_region_tree [7, 9] (.free 0 (.free 1 (.free 2 (.free 3 (.eff 4 (.eff 5 (.eff 6 (.last 7 (.last 8 (.last 9 .nil)))))))))) (by kernel_rfl) (by kernel_rfl) (fun _ _ d _ _ h => by cases d <;> exact h) ?_
            conv => arg 4; whnf
            conv => arg 4; arg 1; whnf
            refine pt_free (by rfl) (fun K hK => ?_)
            go_big_quiet_op
            first | (refine hK _ ?_; clear hK K) | (refine ⟨_, fun _ _ => rfl, hK _ ?_⟩; clear hK K)
            conv => arg 4; whnf
            conv => arg 4; arg 1; whnf
            refine pt_load (fun W h => load_rows _ _ W h) (p := ⟨SB, 2, none⟩) x2 x5 (by rfl) rfl rfl ?_
            simp only [Act.put, List.setIfInBounds_toArray, List.set_cons_zero, List.set_cons_succ]
            conv => arg 4; whnf
            conv => arg 4; arg 1; whnf
            refine pt_free (by rfl) (fun K hK => ?_)
            go_big_quiet_op
            first | (refine hK _ ?_; clear hK K) | (refine ⟨_, fun _ _ => rfl, hK _ ?_⟩; clear hK K)
            conv => arg 4; whnf
            conv => arg 4; arg 1; whnf
            refine pt_free (by rfl) (fun K hK => ?_)
            go_big_quiet_op
            first | (refine hK _ ?_; clear hK K) | (refine ⟨_, fun _ _ => rfl, hK _ ?_⟩; clear hK K)
            conv => arg 4; whnf
            conv => arg 4; arg 1; whnf
            refine pt_eff (by rfl) (fun K hK => ?_)
            go_wp2_with fail
            refine (digits_rd _ (100 + r) _ (by omega) (by omega)).mono ?_
            rintro e w4 ⟨rfl, hb4⟩
            refine hK _ _ hb4 ?_
            clear hK K
            have F4 := (F6.drew).keep hb4
            clear hb4 x0 x1 x2 x3 x4 x5
            rw [← rowText_of hr12]
            conv => arg 4; whnf
            conv => arg 4; arg 1; whnf
            refine pt_eff (by rfl) (fun K hK => ?_)
            go_wp2
            refine hK _ _ ((Below.refl _ _).alloc (Nat.le_refl _) _) ?_
            clear hK K
            conv => arg 4; whnf
            conv => arg 4; arg 1; whnf
            refine pt_eff (by rfl) (fun K hK => ?_)
            go_wp2
            refine hK _ _ ((Below.refl _ _).alloc (Nat.le_refl _) _) ?_
            clear hK K
            conv => arg 4; whnf
            conv => arg 4; arg 1; whnf
            refine pt_last (by rfl) (fun K hK => ?_)
            refine wp_app1 eRow (by rfl) (F4.lay (.cells #[.string (rowText r)] 9)).ob (by rfl) (by rfl) (by rw [World.size_alloc]) rfl (by omega) (F4.lay _).below.size (fun v1 w1 hown1 hg1 hk1 => ?_)
            obtain ⟨F7, y0, y1⟩ := F4.appB1 hown1 hg1 hk1
            obtain ⟨A1, c1, rfl, _⟩ := own_form hown1
            refine hK _ _ ?_
            clear hK K
            simp only [Act.put, List.setIfInBounds_toArray, List.set_cons_zero, List.set_cons_succ]
            conv => arg 4; whnf
            conv => arg 4; arg 1; whnf
            refine pt_last (by rfl) (fun K hK => ?_)
            go_wp2
            conv => arg 4; whnf
            conv => arg 4; arg 1; whnf
            refine pt_last (by rfl) (fun K hK => ?_)
            go_wp2
            refine pt_nil ?_
            generalize w1.setCell ⟨SB, 2, none⟩ (.slice A1 (rb2.length + 1) c1) = wq at *
            generalize hvv : (Value.slice A1 (rb2.length + 1) c1) = vv at *
            clear hown1 hg1 hk1 y0 y1 hvv F4
            have ob3 : OfCodes (rb2 ++ [⟨some ⟨w4.heap.size, 0, none⟩, [rowText r], 1⟩]) (cb2 ++ [r]) := ob2.snoc
            go_wp2
            have hn1 : gone k i j r (r + 1) = (cb2 ++ [r], cw ++ [(rb2.length : Int)]) := by
              rw [HS.out, goneStep_eq, HB.out, if_neg (by omega), if_neg (by omega)]; rw [ob2.len]
            go_roundw
            case rel => exact ⟨r + 1, by omega, by go_num, ⟨_, _, _, _, _, _, hn1, F7, oa2, ob3⟩⟩
            case measure => first | (simp [intOf]; done) | (simp [intOf]; omega)
      · have t1 : ¬ ((r : Int) < (i : Int)) := by omega
        have t2 : (j : Int) < (r : Int) := by omega
        by_cases hrk : r = k
        · have t9 : (r : Int) = (k : Int) := by omega
          have HRK := Lib.hid hrk
          clear hrk
          go_wp2_with (at_builtin; refine wpList_app1 eRow rfl rfl (F.lay (.cells #[.string inText] 9)).ob rfl rfl (by first | rfl | simp) rfl (by omega) (F.lay _).below.size ?_; intro v1 w1 hown1 hg1 hk1; obtain ⟨F1, y0, y1⟩ := F.appB1 hown1 hg1 hk1; obtain ⟨A1, c1, rfl, _⟩ := own_form hown1)
          have ob2 : OfCodes (rb ++ [⟨some ⟨wr.heap.size, 0, none⟩, [⟨#[39, 105, 110]⟩], 1⟩]) (cb ++ [1000]) := ob.snoc (c := 1000)
          have hbl2 : (rb ++ [(⟨some ⟨wr.heap.size, 0, none⟩, [⟨#[39, 105, 110]⟩], 1⟩ : SRow)]).length ≤ 25 := by simp; omega
          generalize w1.setCell ⟨SB, 2, none⟩ (.slice A1 (rb.length + 1) c1) = wq at *
          generalize hvv : (Value.slice A1 (rb.length + 1) c1) = vv at *
          generalize rb ++ [(⟨some ⟨wr.heap.size, 0, none⟩, [⟨#[39, 105, 110]⟩], 1⟩ : SRow)] = rb2 at *
          generalize hcb2 : cb ++ [1000] = cb2 at *
          have HB : Hid (insOf i j r r cb = cb2) := by unfold insOf; rw [if_pos ⟨rfl, by omega⟩]; exact hcb2
          clear hown1 hg1 hk1 y0 y1 hvv F ob z0 z1 z2 z3 z4 z5 hcb2 HLB
          obtain ⟨Ab2, cb2', rfl, _⟩ := own_form F1.ob
          have hrk := HRK.out
          have hfin : gone k i j r (k + 1) = (cb2, cw) := by
            subst hrk
            rw [gone_succ, HGS.out, goneStep_eq, HB.out, if_pos rfl]
          obtain ⟨l1, l2, l3⟩ := HLAW.out
          rw [hfin] at l1 l2 l3
          dsimp only at l1 l2 l3
          have hxy : rowsOf (rowKeys ra) (rowKeys rb2) = cw := by rw [oa.keys, ob2.keys, hrk]; exact l1
          have HXY := Lib.hid hxy
          have hma := oa.mild (by simp; omega) (fun c hc => .inl (by have := List.mem_range.1 hc; omega))
          have hmb := ob2.mild l3 l2
          have hxl : (rowsOf (rowKeys ra) (rowKeys rb2)).length = ra.length := by rw [rowsOf_len, rowKeys_len]
          have HXL := Lib.hid hxl
          clear hxy hxl l1 l2 l3 hrk
          obtain ⟨x0, x1, x2, x3, x4, x5⟩ := (F1.drew).facts
          have sa1 := (F1.drew).sa
          have sb1 := (F1.drew).sb
          have GA : Grid wq.drew Aa ra := ⟨At1.of_own (F1.drew).oa (by omega), fun x hx => ((F1.drew).rows x (by simp [hx])).at1⟩
          have GB : Grid wq.drew Ab2 rb2 := ⟨At1.of_own (F1.drew).ob (by omega), fun x hx => ((F1.drew).rows x (by simp [hx])).at1⟩
          have GW : At1 vInt wq.drew Aw cw := At1.of_own (F1.drew).ow (by omega)
          have HG := Lib.hid (And.intro GA (And.intro GB GW))
          have HB1 := Lib.hid (F1.drew).below
          clear GA GB GW
          refine wp_region_tree [] (.free 0 (.free 1 (.free 3 (.free 4 (.free 5 (.free 6 (.free 7 (.eff 2 (.eff 8 (.free 9 (.eff 10 (.free 11 (.free 12 .nil))))))))))))) (by kernel_rfl) (by kernel_rfl) (fun _ _ d _ _ h => by cases d <;> exact h) ?_
          conv => arg 4; whnf
          conv => arg 4; arg 1; whnf
          refine pt_loadB (k := SA) (fun W h => load_sheet _ W _ _ _ _ _ (h.trans sa1)) x4 (by rfl) rfl rfl ?_
          simp only [Act.put, List.setIfInBounds_toArray, List.set_cons_zero, List.set_cons_succ]
          conv => arg 4; whnf
          conv => arg 4; arg 1; whnf
          refine pt_loadB (k := SB) (fun W h => load_sheet _ W _ _ _ _ _ (h.trans sb1)) x5 (by rfl) rfl rfl ?_
          simp only [Act.put, List.setIfInBounds_toArray, List.set_cons_zero, List.set_cons_succ]
          conv => arg 4; whnf
          conv => arg 4; arg 1; whnf
          refine pt_free (by rfl) (fun K hK => ?_)
          go_big_quiet_op
          first | (refine hK _ ?_; clear hK K) | (refine ⟨_, fun _ _ => rfl, hK _ ?_⟩; clear hK K)
          conv => arg 4; whnf
          conv => arg 4; arg 1; whnf
          refine pt_free (by rfl) (fun K hK => ?_)
          go_big_quiet_op
          first | (refine hK _ ?_; clear hK K) | (refine ⟨_, fun _ _ => rfl, hK _ ?_⟩; clear hK K)
          conv => arg 4; whnf
          conv => arg 4; arg 1; whnf
          refine pt_load (fun W h => load_rows _ _ W h) (p := ⟨SB, 2, none⟩) x2 x5 (by rfl) rfl rfl ?_
          simp only [Act.put, List.setIfInBounds_toArray, List.set_cons_zero, List.set_cons_succ]
          conv => arg 4; whnf
          conv => arg 4; arg 1; whnf
          refine pt_free (by rfl) (fun K hK => ?_)
          go_big_quiet_op
          first | (refine hK _ ?_; clear hK K) | (refine ⟨_, fun _ _ => rfl, hK _ ?_⟩; clear hK K)
          conv => arg 4; whnf
          conv => arg 4; arg 1; whnf
          refine pt_free (by rfl) (fun K hK => ?_)
          go_big_quiet_op
          first | (refine hK _ ?_; clear hK K) | (refine ⟨_, fun _ _ => rfl, hK _ ?_⟩; clear hK K)
          conv => arg 4; whnf
          conv => arg 4; arg 1; whnf
          refine pt_eff (by rfl) (fun K hK => ?_)
          go_wp2_with fail
          refine (alignRows_any _ Aa Ab2 ra rb2 ra.length rb2.length _ _ ⟨#[65]⟩ ⟨#[65]⟩ 1 1 rfl rfl HG.out.1 HG.out.2.1 hma hmb).mono ?_
          rintro e w4 ⟨Z, cz, rfl, hown, hb4⟩
          refine hK _ _ hb4 ?_
          clear hK K
          rw [HXY.out] at hown
          have hZ : At1 vInt w4 Z cw := At1.of_own hown (by omega)
          have hWw := HG.out.2.2.below hb4
          have HB4 := Lib.hid (HB1.out.trans (hb4.mono HB1.out.size))
          have hcl : cw.length = ra.length := by rw [← HXY.out]; exact HXL.out
          have HCL := Lib.hid hcl
          clear hown hb4 hcl
          conv => arg 4; whnf
          conv => arg 4; arg 1; whnf
          refine pt_eff (by rfl) (fun K hK => ?_)
          go_wp2_with fail
          refine (sameMap_any _ Z Aw cw cw ra.length cw.length cz _ _ HCL.out rfl hZ hWw rfl).mono ?_
          rintro e w5 ⟨rfl, hb5⟩
          refine hK _ _ hb5 ?_
          clear hK K
          have HB5 := Lib.hid (HB4.out.trans (hb5.mono HB4.out.size))
          clear hb5 hZ hWw
          conv => arg 4; whnf
          conv => arg 4; arg 1; whnf
          refine pt_free (by rfl) (fun K hK => ?_)
          go_big_quiet_op
          first | (refine hK _ ?_; clear hK K) | (refine ⟨_, fun _ _ => rfl, hK _ ?_⟩; clear hK K)
          conv => arg 4; whnf
          conv => arg 4; arg 1; whnf
          refine pt_eff (by rfl) (fun K hK => ?_)
          go_wp2_with fail
          refine (awake_any _).mono ?_
          rintro e w6 ⟨rfl, hb6⟩
          refine hK _ _ hb6 ?_
          clear hK K
          have HB6 := Lib.hid (HB5.out.trans (hb6.mono HB5.out.size))
          conv => arg 4; whnf
          conv => arg 4; arg 1; whnf
          refine pt_free (by rfl) (fun K hK => ?_)
          go_big_quiet_op
          first | (refine hK _ ?_; clear hK K) | (refine ⟨_, fun _ _ => rfl, hK _ ?_⟩; clear hK K)
          conv => arg 4; whnf
          conv => arg 4; arg 1; whnf
          refine pt_free (by rfl) (fun K hK => ?_)
          go_big_quiet_op
          first | (refine hK _ ?_; clear hK K) | (refine ⟨_, fun _ _ => rfl, hK _ ?_⟩; clear hK K)
          refine pt_nil ?_
          go_wp2
          go_ret
          exact ⟨rfl, HB6.out⟩
        · have t9 : ¬ ((r : Int) = (k : Int)) := by omega
          go_wp2_with (at_builtin; refine wpList_app1 eRow rfl rfl (F.lay (.cells #[.string inText] 9)).ob rfl rfl (by first | rfl | simp) rfl (by omega) (F.lay _).below.size ?_; intro v1 w1 hown1 hg1 hk1; obtain ⟨F1, y0, y1⟩ := F.appB1 hown1 hg1 hk1; obtain ⟨A1, c1, rfl, _⟩ := own_form hown1)
          have ob2 : OfCodes (rb ++ [⟨some ⟨wr.heap.size, 0, none⟩, [⟨#[39, 105, 110]⟩], 1⟩]) (cb ++ [1000]) := ob.snoc (c := 1000)
          have hbl2 : (rb ++ [(⟨some ⟨wr.heap.size, 0, none⟩, [⟨#[39, 105, 110]⟩], 1⟩ : SRow)]).length ≤ 25 := by simp; omega
          generalize w1.setCell ⟨SB, 2, none⟩ (.slice A1 (rb.length + 1) c1) = wq at *
          generalize hvv : (Value.slice A1 (rb.length + 1) c1) = vv at *
          generalize rb ++ [(⟨some ⟨wr.heap.size, 0, none⟩, [⟨#[39, 105, 110]⟩], 1⟩ : SRow)] = rb2 at *
          generalize hcb2 : cb ++ [1000] = cb2 at *
          have HB : Hid (insOf i j r r cb = cb2) := by unfold insOf; rw [if_pos ⟨rfl, by omega⟩]; exact hcb2
          clear hown1 hg1 hk1 y0 y1 hvv F ob z0 z1 z2 z3 z4 z5 hcb2 HLB
          obtain ⟨Ab2, cb2', rfl, _⟩ := own_form F1.ob
          have hrk1 : r < k := by omega
          obtain ⟨x0, x1, x2, x3, x4, x5⟩ := (F1.drew).facts
          refine wp_region_tree [7, 9] (.free 0 (.free 1 (.free 2 (.free 3 (.eff 4 (.eff 5 (.eff 6 (.last 7 (.last 8 (.last 9 .nil)))))))))) (by kernel_rfl) (by kernel_rfl) (fun _ _ d _ _ h => by cases d <;> exact h) ?_
          conv => arg 4; whnf
          conv => arg 4; arg 1; whnf
          refine pt_free (by rfl) (fun K hK => ?_)
          go_big_quiet_op
          first | (refine hK _ ?_; clear hK K) | (refine ⟨_, fun _ _ => rfl, hK _ ?_⟩; clear hK K)
          conv => arg 4; whnf
          conv => arg 4; arg 1; whnf
          refine pt_load (fun W h => load_rows _ _ W h) (p := ⟨SA, 2, none⟩) x0 x4 (by rfl) rfl rfl ?_
          simp only [Act.put, List.setIfInBounds_toArray, List.set_cons_zero, List.set_cons_succ]
          conv => arg 4; whnf
          conv => arg 4; arg 1; whnf
          refine pt_free (by rfl) (fun K hK => ?_)
          go_big_quiet_op
          first | (refine hK _ ?_; clear hK K) | (refine ⟨_, fun _ _ => rfl, hK _ ?_⟩; clear hK K)
          conv => arg 4; whnf
          conv => arg 4; arg 1; whnf
          refine pt_free (by rfl) (fun K hK => ?_)
          go_big_quiet_op
          first | (refine hK _ ?_; clear hK K) | (refine ⟨_, fun _ _ => rfl, hK _ ?_⟩; clear hK K)
          conv => arg 4; whnf
          conv => arg 4; arg 1; whnf
          refine pt_eff (by rfl) (fun K hK => ?_)
          go_wp2_with fail
          refine (digits_rd _ (100 + r) _ (by omega) (by omega)).mono ?_
          rintro e w4 ⟨rfl, hb4⟩
          refine hK _ _ hb4 ?_
          clear hK K
          have F4 := (F1.drew).keep hb4
          clear hb4 x0 x1 x2 x3 x4 x5
          rw [← rowText_of hr12]
          conv => arg 4; whnf
          conv => arg 4; arg 1; whnf
          refine pt_eff (by rfl) (fun K hK => ?_)
          go_wp2
          refine hK _ _ ((Below.refl _ _).alloc (Nat.le_refl _) _) ?_
          clear hK K
          conv => arg 4; whnf
          conv => arg 4; arg 1; whnf
          refine pt_eff (by rfl) (fun K hK => ?_)
          go_wp2
          refine hK _ _ ((Below.refl _ _).alloc (Nat.le_refl _) _) ?_
          clear hK K
          conv => arg 4; whnf
          conv => arg 4; arg 1; whnf
          refine pt_last (by rfl) (fun K hK => ?_)
          refine wp_app1 eRow (by rfl) (F4.lay (.cells #[.string (rowText r)] 9)).oa (by rfl) (by rfl) (by rw [World.size_alloc]) rfl (by omega) (F4.lay _).below.size (fun v1 w1 hown1 hg1 hk1 => ?_)
          obtain ⟨F5, y0, y1⟩ := F4.appA1 hown1 hg1 hk1
          obtain ⟨A1, c1, rfl, _⟩ := own_form hown1
          refine hK _ _ ?_
          clear hK K
          simp only [Act.put, List.setIfInBounds_toArray, List.set_cons_zero, List.set_cons_succ]
          conv => arg 4; whnf
          conv => arg 4; arg 1; whnf
          refine pt_last (by rfl) (fun K hK => ?_)
          go_wp2
          conv => arg 4; whnf
          conv => arg 4; arg 1; whnf
          refine pt_last (by rfl) (fun K hK => ?_)
          go_wp2
          refine pt_nil ?_
          generalize w1.setCell ⟨SA, 2, none⟩ (.slice A1 (ra.length + 1) c1) = wq at *
          generalize hvv : (Value.slice A1 (ra.length + 1) c1) = vv at *
          clear hown1 hg1 hk1 y0 y1 hvv F4
          have oa2 : OfCodes (ra ++ [⟨some ⟨w4.heap.size, 0, none⟩, [rowText r], 1⟩]) (List.range (r + 1)) := by rw [List.range_succ]; exact oa.snoc
          generalize ra ++ [(⟨some ⟨w4.heap.size, 0, none⟩, [rowText r], 1⟩ : SRow)] = ra2 at *
          clear oa
          obtain ⟨Aa2, ca2, rfl, _⟩ := own_form F5.oa
          obtain ⟨z0, z1, z2, z3, z4, z5⟩ := F5.facts
          by_cases t5 : (i : Int) ≤ (r : Int)
          · by_cases t6 : (r : Int) < (j : Int)
            · skip
              exfalso; omega
            · skip
              go_wp2_with (at_builtin; refine wpList_app1 eInt rfl rfl F5.ow rfl rfl (by first | rfl | simp) rfl (by omega) F5.below.size ?_; intro v1 w1 hown1 hg1 hk1; have F6 := F5.appendW hown1 hg1; obtain ⟨y0, y1, y2, y3, y4, y5⟩ := F6.facts)
              clear y0 y1 y2 y3 y4 y5 z0 z1 z2 z3 z4 z5
              obtain ⟨Aw2, cw2, rfl, _⟩ := own_form F6.ow
              obtain ⟨x0, x1, x2, x3, x4, x5⟩ := (F6.drew).facts
              refine wp_region_tree [7, 9] (.free 0 (.free 1 (.free 2 (.free 3 (.eff 4 (.eff 5 (.eff 6 (.last 7 (.last 8 (.last 9 .nil)))))))))) (by kernel_rfl) (by kernel_rfl) (fun _ _ d _ _ h => by cases d <;> exact h) ?_
              conv => arg 4; whnf
              conv => arg 4; arg 1; whnf
              refine pt_free (by rfl) (fun K hK => ?_)
              go_big_quiet_op
              first | (refine hK _ ?_; clear hK K) | (refine ⟨_, fun _ _ => rfl, hK _ ?_⟩; clear hK K)
              conv => arg 4; whnf
              conv => arg 4; arg 1; whnf
              refine pt_load (fun W h => load_rows _ _ W h) (p := ⟨SB, 2, none⟩) x2 x5 (by rfl) rfl rfl ?_
              simp only [Act.put, List.setIfInBounds_toArray, List.set_cons_zero, List.set_cons_succ]
              conv => arg 4; whnf
              conv => arg 4; arg 1; whnf
              refine pt_free (by rfl) (fun K hK => ?_)
              go_big_quiet_op
              first | (refine hK _ ?_; clear hK K) | (refine ⟨_, fun _ _ => rfl, hK _ ?_⟩; clear hK K)
              conv => arg 4; whnf
              conv => arg 4; arg 1; whnf
              refine pt_free (by rfl) (fun K hK => ?_)
              go_big_quiet_op
              first | (refine hK _ ?_; clear hK K) | (refine ⟨_, fun _ _ => rfl, hK _ ?_⟩; clear hK K)
              conv => arg 4; whnf
              conv => arg 4; arg 1; whnf
              refine pt_eff (by rfl) (fun K hK => ?_)
              go_wp2_with fail
              refine (digits_rd _ (100 + r) _ (by omega) (by omega)).mono ?_
              rintro e w4 ⟨rfl, hb4⟩
              refine hK _ _ hb4 ?_
              clear hK K
              have F4 := (F6.drew).keep hb4
              clear hb4 x0 x1 x2 x3 x4 x5
              rw [← rowText_of hr12]
              conv => arg 4; whnf
              conv => arg 4; arg 1; whnf
              refine pt_eff (by rfl) (fun K hK => ?_)
              go_wp2
              refine hK _ _ ((Below.refl _ _).alloc (Nat.le_refl _) _) ?_
              clear hK K
              conv => arg 4; whnf
              conv => arg 4; arg 1; whnf
              refine pt_eff (by rfl) (fun K hK => ?_)
              go_wp2
              refine hK _ _ ((Below.refl _ _).alloc (Nat.le_refl _) _) ?_
              clear hK K
              conv => arg 4; whnf
              conv => arg 4; arg 1; whnf
              refine pt_last (by rfl) (fun K hK => ?_)
              refine wp_app1 eRow (by rfl) (F4.lay (.cells #[.string (rowText r)] 9)).ob (by rfl) (by rfl) (by rw [World.size_alloc]) rfl (by omega) (F4.lay _).below.size (fun v1 w1 hown1 hg1 hk1 => ?_)
              obtain ⟨F7, y0, y1⟩ := F4.appB1 hown1 hg1 hk1
              obtain ⟨A1, c1, rfl, _⟩ := own_form hown1
              refine hK _ _ ?_
              clear hK K
              simp only [Act.put, List.setIfInBounds_toArray, List.set_cons_zero, List.set_cons_succ]
              conv => arg 4; whnf
              conv => arg 4; arg 1; whnf
              refine pt_last (by rfl) (fun K hK => ?_)
              go_wp2
              conv => arg 4; whnf
              conv => arg 4; arg 1; whnf
              refine pt_last (by rfl) (fun K hK => ?_)
              go_wp2
              refine pt_nil ?_
              generalize w1.setCell ⟨SB, 2, none⟩ (.slice A1 (rb2.length + 1) c1) = wq at *
              generalize hvv : (Value.slice A1 (rb2.length + 1) c1) = vv at *
              clear hown1 hg1 hk1 y0 y1 hvv F4
              have ob3 : OfCodes (rb2 ++ [⟨some ⟨w4.heap.size, 0, none⟩, [rowText r], 1⟩]) (cb2 ++ [r]) := ob2.snoc
              go_wp2
              have hn1 : gone k i j r (r + 1) = (cb2 ++ [r], cw ++ [(rb2.length : Int)]) := by
                rw [HS.out, goneStep_eq, HB.out, if_neg (by omega), if_neg (by omega)]; rw [ob2.len]
              go_roundw
              case rel => exact ⟨r + 1, by omega, by go_num, ⟨_, _, _, _, _, _, hn1, F7, oa2, ob3⟩⟩
              case measure => first | (simp [intOf]; done) | (simp [intOf]; omega)
          · skip
            exfalso; omega
    · by_cases hrp : r = put
      · subst hrp
        have t1 : ¬ ((r : Int) < (i : Int)) := by omega
        have t2 : ¬ ((j : Int) < (r : Int)) := by omega
        have F1 := F
        have ob2 := ob
        have hbl2 : rb.length ≤ 25 := by omega
        have HB : Hid (insOf i j r r cb = cb) := by unfold insOf; rw [if_neg (by omega), List.append_nil]; exact rfl
        clear F ob z0 z1 z2 z3 z4 z5 HLB
        by_cases hrk : r = k
        · have t9 : (r : Int) = (k : Int) := by omega
          have HRK := Lib.hid hrk
          clear hrk
          go_wp2
          have hrk := HRK.out
          have hfin : gone k i j r (k + 1) = (cb, cw) := by
            subst hrk
            rw [gone_succ, HGS.out, goneStep_eq, HB.out, if_pos rfl]
          obtain ⟨l1, l2, l3⟩ := HLAW.out
          rw [hfin] at l1 l2 l3
          dsimp only at l1 l2 l3
          have hxy : rowsOf (rowKeys ra) (rowKeys rb) = cw := by rw [oa.keys, ob2.keys, hrk]; exact l1
          have HXY := Lib.hid hxy
          have hma := oa.mild (by simp; omega) (fun c hc => .inl (by have := List.mem_range.1 hc; omega))
          have hmb := ob2.mild l3 l2
          have hxl : (rowsOf (rowKeys ra) (rowKeys rb)).length = ra.length := by rw [rowsOf_len, rowKeys_len]
          have HXL := Lib.hid hxl
          clear hxy hxl l1 l2 l3 hrk
          obtain ⟨x0, x1, x2, x3, x4, x5⟩ := (F1.drew).facts
          have sa1 := (F1.drew).sa
          have sb1 := (F1.drew).sb
          have GA : Grid wr.drew Aa ra := ⟨At1.of_own (F1.drew).oa (by omega), fun x hx => ((F1.drew).rows x (by simp [hx])).at1⟩
          have GB : Grid wr.drew Ab rb := ⟨At1.of_own (F1.drew).ob (by omega), fun x hx => ((F1.drew).rows x (by simp [hx])).at1⟩
          have GW : At1 vInt wr.drew Aw cw := At1.of_own (F1.drew).ow (by omega)
          have HG := Lib.hid (And.intro GA (And.intro GB GW))
          have HB1 := Lib.hid (F1.drew).below
          clear GA GB GW
          refine wp_region_tree [] (.free 0 (.free 1 (.free 3 (.free 4 (.free 5 (.free 6 (.free 7 (.eff 2 (.eff 8 (.free 9 (.eff 10 (.free 11 (.free 12 .nil))))))))))))) (by kernel_rfl) (by kernel_rfl) (fun _ _ d _ _ h => by cases d <;> exact h) ?_
          conv => arg 4; whnf
          conv => arg 4; arg 1; whnf
          refine pt_loadB (k := SA) (fun W h => load_sheet _ W _ _ _ _ _ (h.trans sa1)) x4 (by rfl) rfl rfl ?_
          simp only [Act.put, List.setIfInBounds_toArray, List.set_cons_zero, List.set_cons_succ]
          conv => arg 4; whnf
          conv => arg 4; arg 1; whnf
          refine pt_loadB (k := SB) (fun W h => load_sheet _ W _ _ _ _ _ (h.trans sb1)) x5 (by rfl) rfl rfl ?_
          simp only [Act.put, List.setIfInBounds_toArray, List.set_cons_zero, List.set_cons_succ]
          conv => arg 4; whnf
          conv => arg 4; arg 1; whnf
          refine pt_free (by rfl) (fun K hK => ?_)
          go_big_quiet_op
          first | (refine hK _ ?_; clear hK K) | (refine ⟨_, fun _ _ => rfl, hK _ ?_⟩; clear hK K)
          conv => arg 4; whnf
          conv => arg 4; arg 1; whnf
          refine pt_free (by rfl) (fun K hK => ?_)
          go_big_quiet_op
          first | (refine hK _ ?_; clear hK K) | (refine ⟨_, fun _ _ => rfl, hK _ ?_⟩; clear hK K)
          conv => arg 4; whnf
          conv => arg 4; arg 1; whnf
          refine pt_load (fun W h => load_rows _ _ W h) (p := ⟨SB, 2, none⟩) x2 x5 (by rfl) rfl rfl ?_
          simp only [Act.put, List.setIfInBounds_toArray, List.set_cons_zero, List.set_cons_succ]
          conv => arg 4; whnf
          conv => arg 4; arg 1; whnf
          refine pt_free (by rfl) (fun K hK => ?_)
          go_big_quiet_op
          first | (refine hK _ ?_; clear hK K) | (refine ⟨_, fun _ _ => rfl, hK _ ?_⟩; clear hK K)
          conv => arg 4; whnf
          conv => arg 4; arg 1; whnf
          refine pt_free (by rfl) (fun K hK => ?_)
          go_big_quiet_op
          first | (refine hK _ ?_; clear hK K) | (refine ⟨_, fun _ _ => rfl, hK _ ?_⟩; clear hK K)
          conv => arg 4; whnf
          conv => arg 4; arg 1; whnf
          refine pt_eff (by rfl) (fun K hK => ?_)
          go_wp2_with fail
          refine (alignRows_any _ Aa Ab ra rb ra.length rb.length _ _ ⟨#[65]⟩ ⟨#[65]⟩ 1 1 rfl rfl HG.out.1 HG.out.2.1 hma hmb).mono ?_
          rintro e w4 ⟨Z, cz, rfl, hown, hb4⟩
          refine hK _ _ hb4 ?_
          clear hK K
          rw [HXY.out] at hown
          have hZ : At1 vInt w4 Z cw := At1.of_own hown (by omega)
          have hWw := HG.out.2.2.below hb4
          have HB4 := Lib.hid (HB1.out.trans (hb4.mono HB1.out.size))
          have hcl : cw.length = ra.length := by rw [← HXY.out]; exact HXL.out
          have HCL := Lib.hid hcl
          clear hown hb4 hcl
          conv => arg 4; whnf
          conv => arg 4; arg 1; whnf
          refine pt_eff (by rfl) (fun K hK => ?_)
          go_wp2_with fail
          refine (sameMap_any _ Z Aw cw cw ra.length cw.length cz _ _ HCL.out rfl hZ hWw rfl).mono ?_
          rintro e w5 ⟨rfl, hb5⟩
          refine hK _ _ hb5 ?_
          clear hK K
          have HB5 := Lib.hid (HB4.out.trans (hb5.mono HB4.out.size))
          clear hb5 hZ hWw
          conv => arg 4; whnf
          conv => arg 4; arg 1; whnf
          refine pt_free (by rfl) (fun K hK => ?_)
          go_big_quiet_op
          first | (refine hK _ ?_; clear hK K) | (refine ⟨_, fun _ _ => rfl, hK _ ?_⟩; clear hK K)
          conv => arg 4; whnf
          conv => arg 4; arg 1; whnf
          refine pt_eff (by rfl) (fun K hK => ?_)
          go_wp2_with fail
          refine (awake_any _).mono ?_
          rintro e w6 ⟨rfl, hb6⟩
          refine hK _ _ hb6 ?_
          clear hK K
          have HB6 := Lib.hid (HB5.out.trans (hb6.mono HB5.out.size))
          conv => arg 4; whnf
          conv => arg 4; arg 1; whnf
          refine pt_free (by rfl) (fun K hK => ?_)
          go_big_quiet_op
          first | (refine hK _ ?_; clear hK K) | (refine ⟨_, fun _ _ => rfl, hK _ ?_⟩; clear hK K)
          conv => arg 4; whnf
          conv => arg 4; arg 1; whnf
          refine pt_free (by rfl) (fun K hK => ?_)
          go_big_quiet_op
          first | (refine hK _ ?_; clear hK K) | (refine ⟨_, fun _ _ => rfl, hK _ ?_⟩; clear hK K)
          refine pt_nil ?_
          go_wp2
          go_ret
          exact ⟨rfl, HB6.out⟩
        · have t9 : ¬ ((r : Int) = (k : Int)) := by omega
          go_wp2
          have hrk1 : r < k := by omega
          obtain ⟨x0, x1, x2, x3, x4, x5⟩ := (F1.drew).facts
          refine wp_region_tree [7, 9] (.free 0 (.free 1 (.free 2 (.free 3 (.eff 4 (.eff 5 (.eff 6 (.last 7 (.last 8 (.last 9 .nil)))))))))) (by kernel_rfl) (by kernel_rfl) (fun _ _ d _ _ h => by cases d <;> exact h) ?_
          conv => arg 4; whnf
          conv => arg 4; arg 1; whnf
          refine pt_free (by rfl) (fun K hK => ?_)
          go_big_quiet_op
          first | (refine hK _ ?_; clear hK K) | (refine ⟨_, fun _ _ => rfl, hK _ ?_⟩; clear hK K)
          conv => arg 4; whnf
          conv => arg 4; arg 1; whnf
          refine pt_load (fun W h => load_rows _ _ W h) (p := ⟨SA, 2, none⟩) x0 x4 (by rfl) rfl rfl ?_
          simp only [Act.put, List.setIfInBounds_toArray, List.set_cons_zero, List.set_cons_succ]
          conv => arg 4; whnf
          conv => arg 4; arg 1; whnf
          refine pt_free (by rfl) (fun K hK => ?_)
          go_big_quiet_op
          first | (refine hK _ ?_; clear hK K) | (refine ⟨_, fun _ _ => rfl, hK _ ?_⟩; clear hK K)
          conv => arg 4; whnf
          conv => arg 4; arg 1; whnf
          refine pt_free (by rfl) (fun K hK => ?_)
          go_big_quiet_op
          first | (refine hK _ ?_; clear hK K) | (refine ⟨_, fun _ _ => rfl, hK _ ?_⟩; clear hK K)
          conv => arg 4; whnf
          conv => arg 4; arg 1; whnf
          refine pt_eff (by rfl) (fun K hK => ?_)
          go_wp2_with fail
          refine (digits_rd _ (100 + r) _ (by omega) (by omega)).mono ?_
          rintro e w4 ⟨rfl, hb4⟩
          refine hK _ _ hb4 ?_
          clear hK K
          have F4 := (F1.drew).keep hb4
          clear hb4 x0 x1 x2 x3 x4 x5
          rw [← rowText_of hr12]
          conv => arg 4; whnf
          conv => arg 4; arg 1; whnf
          refine pt_eff (by rfl) (fun K hK => ?_)
          go_wp2
          refine hK _ _ ((Below.refl _ _).alloc (Nat.le_refl _) _) ?_
          clear hK K
          conv => arg 4; whnf
          conv => arg 4; arg 1; whnf
          refine pt_eff (by rfl) (fun K hK => ?_)
          go_wp2
          refine hK _ _ ((Below.refl _ _).alloc (Nat.le_refl _) _) ?_
          clear hK K
          conv => arg 4; whnf
          conv => arg 4; arg 1; whnf
          refine pt_last (by rfl) (fun K hK => ?_)
          refine wp_app1 eRow (by rfl) (F4.lay (.cells #[.string (rowText r)] 9)).oa (by rfl) (by rfl) (by rw [World.size_alloc]) rfl (by omega) (F4.lay _).below.size (fun v1 w1 hown1 hg1 hk1 => ?_)
          obtain ⟨F5, y0, y1⟩ := F4.appA1 hown1 hg1 hk1
          obtain ⟨A1, c1, rfl, _⟩ := own_form hown1
          refine hK _ _ ?_
          clear hK K
          simp only [Act.put, List.setIfInBounds_toArray, List.set_cons_zero, List.set_cons_succ]
          conv => arg 4; whnf
          conv => arg 4; arg 1; whnf
          refine pt_last (by rfl) (fun K hK => ?_)
          go_wp2
          conv => arg 4; whnf
          conv => arg 4; arg 1; whnf
          refine pt_last (by rfl) (fun K hK => ?_)
          go_wp2
          refine pt_nil ?_
          generalize w1.setCell ⟨SA, 2, none⟩ (.slice A1 (ra.length + 1) c1) = wq at *
          generalize hvv : (Value.slice A1 (ra.length + 1) c1) = vv at *
          clear hown1 hg1 hk1 y0 y1 hvv F4
          have oa2 : OfCodes (ra ++ [⟨some ⟨w4.heap.size, 0, none⟩, [rowText r], 1⟩]) (List.range (r + 1)) := by rw [List.range_succ]; exact oa.snoc
          generalize ra ++ [(⟨some ⟨w4.heap.size, 0, none⟩, [rowText r], 1⟩ : SRow)] = ra2 at *
          clear oa
          obtain ⟨Aa2, ca2, rfl, _⟩ := own_form F5.oa
          obtain ⟨z0, z1, z2, z3, z4, z5⟩ := F5.facts
          by_cases t5 : (i : Int) ≤ (r : Int)
          · by_cases t6 : (r : Int) < (j : Int)
            · skip
              go_wp2_with (at_builtin; refine wpList_app1 eInt rfl rfl F5.ow rfl rfl (by first | rfl | simp) rfl (by omega) F5.below.size ?_; intro v1 w1 hown1 hg1 hk1)
              have F6 := F5.appendW hown1 hg1
              have hn1 : gone k i j r (r + 1) = (cb, cw ++ [-1]) := by
                rw [HS.out, goneStep_eq, HB.out, if_neg (by omega), if_pos (by omega)]
              go_roundw
              case rel => exact ⟨r + 1, by omega, by go_num, ⟨_, _, _, _, _, _, hn1, F6, oa2, ob2⟩⟩
              case measure => first | (simp [intOf]; done) | (simp [intOf]; omega)
            · skip
              go_wp2_with (at_builtin; refine wpList_app1 eInt rfl rfl F5.ow rfl rfl (by first | rfl | simp) rfl (by omega) F5.below.size ?_; intro v1 w1 hown1 hg1 hk1; have F6 := F5.appendW hown1 hg1; obtain ⟨y0, y1, y2, y3, y4, y5⟩ := F6.facts)
              clear y0 y1 y2 y3 y4 y5 z0 z1 z2 z3 z4 z5
              obtain ⟨Aw2, cw2, rfl, _⟩ := own_form F6.ow
              obtain ⟨x0, x1, x2, x3, x4, x5⟩ := (F6.drew).facts
              refine wp_region_tree [7, 9] (.free 0 (.free 1 (.free 2 (.free 3 (.eff 4 (.eff 5 (.eff 6 (.last 7 (.last 8 (.last 9 .nil)))))))))) (by kernel_rfl) (by kernel_rfl) (fun _ _ d _ _ h => by cases d <;> exact h) ?_
              conv => arg 4; whnf
              conv => arg 4; arg 1; whnf
              refine pt_free (by rfl) (fun K hK => ?_)
              go_big_quiet_op
              first | (refine hK _ ?_; clear hK K) | (refine ⟨_, fun _ _ => rfl, hK _ ?_⟩; clear hK K)
              conv => arg 4; whnf
              conv => arg 4; arg 1; whnf
              refine pt_load (fun W h => load_rows _ _ W h) (p := ⟨SB, 2, none⟩) x2 x5 (by rfl) rfl rfl ?_
              simp only [Act.put, List.setIfInBounds_toArray, List.set_cons_zero, List.set_cons_succ]
              conv => arg 4; whnf
              conv => arg 4; arg 1; whnf
              refine pt_free (by rfl) (fun K hK => ?_)
              go_big_quiet_op
              first | (refine hK _ ?_; clear hK K) | (refine ⟨_, fun _ _ => rfl, hK _ ?_⟩; clear hK K)
              conv => arg 4; whnf
              conv => arg 4; arg 1; whnf
              refine pt_free (by rfl) (fun K hK => ?_)
              go_big_quiet_op
              first | (refine hK _ ?_; clear hK K) | (refine ⟨_, fun _ _ => rfl, hK _ ?_⟩; clear hK K)
              conv => arg 4; whnf
              conv => arg 4; arg 1; whnf
              refine pt_eff (by rfl) (fun K hK => ?_)
              go_wp2_with fail
              refine (digits_rd _ (100 + r) _ (by omega) (by omega)).mono ?_
              rintro e w4 ⟨rfl, hb4⟩
              refine hK _ _ hb4 ?_
              clear hK K
              have F4 := (F6.drew).keep hb4
              clear hb4 x0 x1 x2 x3 x4 x5
              rw [← rowText_of hr12]
              conv => arg 4; whnf
              conv => arg 4; arg 1; whnf
              refine pt_eff (by rfl) (fun K hK => ?_)
              go_wp2
              refine hK _ _ ((Below.refl _ _).alloc (Nat.le_refl _) _) ?_
              clear hK K
              conv => arg 4; whnf
              conv => arg 4; arg 1; whnf
              refine pt_eff (by rfl) (fun K hK => ?_)
              go_wp2
              refine hK _ _ ((Below.refl _ _).alloc (Nat.le_refl _) _) ?_
              clear hK K
              conv => arg 4; whnf
              conv => arg 4; arg 1; whnf
              refine pt_last (by rfl) (fun K hK => ?_)
              refine wp_app1 eRow (by rfl) (F4.lay (.cells #[.string (rowText r)] 9)).ob (by rfl) (by rfl) (by rw [World.size_alloc]) rfl (by omega) (F4.lay _).below.size (fun v1 w1 hown1 hg1 hk1 => ?_)
              obtain ⟨F7, y0, y1⟩ := F4.appB1 hown1 hg1 hk1
              obtain ⟨A1, c1, rfl, _⟩ := own_form hown1
              refine hK _ _ ?_
              clear hK K
              simp only [Act.put, List.setIfInBounds_toArray, List.set_cons_zero, List.set_cons_succ]
              conv => arg 4; whnf
              conv => arg 4; arg 1; whnf
              refine pt_last (by rfl) (fun K hK => ?_)
              go_wp2
              conv => arg 4; whnf
              conv => arg 4; arg 1; whnf
              refine pt_last (by rfl) (fun K hK => ?_)
              go_wp2
              refine pt_nil ?_
              generalize w1.setCell ⟨SB, 2, none⟩ (.slice A1 (rb.length + 1) c1) = wq at *
              generalize hvv : (Value.slice A1 (rb.length + 1) c1) = vv at *
              clear hown1 hg1 hk1 y0 y1 hvv F4
              have ob3 : OfCodes (rb ++ [⟨some ⟨w4.heap.size, 0, none⟩, [rowText r], 1⟩]) (cb ++ [r]) := ob2.snoc
              go_wp2
              have hn1 : gone k i j r (r + 1) = (cb ++ [r], cw ++ [(rb.length : Int)]) := by
                rw [HS.out, goneStep_eq, HB.out, if_neg (by omega), if_neg (by omega)]; rw [ob2.len]
              go_roundw
              case rel => exact ⟨r + 1, by omega, by go_num, ⟨_, _, _, _, _, _, hn1, F7, oa2, ob3⟩⟩
              case measure => first | (simp [intOf]; done) | (simp [intOf]; omega)
          · skip
            exfalso; omega
      · have t1 : ¬ ((r : Int) = (put : Int)) := by omega
        have F1 := F
        have ob2 := ob
        have hbl2 : rb.length ≤ 25 := by omega
        have HB : Hid (insOf i j put r cb = cb) := by unfold insOf; rw [if_neg (by omega), List.append_nil]; exact rfl
        clear F ob z0 z1 z2 z3 z4 z5 HLB
        by_cases hrk : r = k
        · have t9 : (r : Int) = (k : Int) := by omega
          have HRK := Lib.hid hrk
          clear hrk
          go_wp2
          have hrk := HRK.out
          have hfin : gone k i j put (k + 1) = (cb, cw) := by
            subst hrk
            rw [gone_succ, HGS.out, goneStep_eq, HB.out, if_pos rfl]
          obtain ⟨l1, l2, l3⟩ := HLAW.out
          rw [hfin] at l1 l2 l3
          dsimp only at l1 l2 l3
          have hxy : rowsOf (rowKeys ra) (rowKeys rb) = cw := by rw [oa.keys, ob2.keys, hrk]; exact l1
          have HXY := Lib.hid hxy
          have hma := oa.mild (by simp; omega) (fun c hc => .inl (by have := List.mem_range.1 hc; omega))
          have hmb := ob2.mild l3 l2
          have hxl : (rowsOf (rowKeys ra) (rowKeys rb)).length = ra.length := by rw [rowsOf_len, rowKeys_len]
          have HXL := Lib.hid hxl
          clear hxy hxl l1 l2 l3 hrk
          obtain ⟨x0, x1, x2, x3, x4, x5⟩ := (F1.drew).facts
          have sa1 := (F1.drew).sa
          have sb1 := (F1.drew).sb
          have GA : Grid wr.drew Aa ra := ⟨At1.of_own (F1.drew).oa (by omega), fun x hx => ((F1.drew).rows x (by simp [hx])).at1⟩
          have GB : Grid wr.drew Ab rb := ⟨At1.of_own (F1.drew).ob (by omega), fun x hx => ((F1.drew).rows x (by simp [hx])).at1⟩
          have GW : At1 vInt wr.drew Aw cw := At1.of_own (F1.drew).ow (by omega)
          have HG := Lib.hid (And.intro GA (And.intro GB GW))
          have HB1 := Lib.hid (F1.drew).below
          clear GA GB GW
          refine wp_region_tree [] (.free 0 (.free 1 (.free 3 (.free 4 (.free 5 (.free 6 (.free 7 (.eff 2 (.eff 8 (.free 9 (.eff 10 (.free 11 (.free 12 .nil))))))))))))) (by kernel_rfl) (by kernel_rfl) (fun _ _ d _ _ h => by cases d <;> exact h) ?_
          conv => arg 4; whnf
          conv => arg 4; arg 1; whnf
          refine pt_loadB (k := SA) (fun W h => load_sheet _ W _ _ _ _ _ (h.trans sa1)) x4 (by rfl) rfl rfl ?_
          simp only [Act.put, List.setIfInBounds_toArray, List.set_cons_zero, List.set_cons_succ]
          conv => arg 4; whnf
          conv => arg 4; arg 1; whnf
          refine pt_loadB (k := SB) (fun W h => load_sheet _ W _ _ _ _ _ (h.trans sb1)) x5 (by rfl) rfl rfl ?_
          simp only [Act.put, List.setIfInBounds_toArray, List.set_cons_zero, List.set_cons_succ]
          conv => arg 4; whnf
          conv => arg 4; arg 1; whnf
          refine pt_free (by rfl) (fun K hK => ?_)
          go_big_quiet_op
          first | (refine hK _ ?_; clear hK K) | (refine ⟨_, fun _ _ => rfl, hK _ ?_⟩; clear hK K)
          conv => arg 4; whnf
          conv => arg 4; arg 1; whnf
          refine pt_free (by rfl) (fun K hK => ?_)
          go_big_quiet_op
          first | (refine hK _ ?_; clear hK K) | (refine ⟨_, fun _ _ => rfl, hK _ ?_⟩; clear hK K)
          conv => arg 4; whnf
          conv => arg 4; arg 1; whnf
          refine pt_load (fun W h => load_rows _ _ W h) (p := ⟨SB, 2, none⟩) x2 x5 (by rfl) rfl rfl ?_
          simp only [Act.put, List.setIfInBounds_toArray, List.set_cons_zero, List.set_cons_succ]
          conv => arg 4; whnf
          conv => arg 4; arg 1; whnf
          refine pt_free (by rfl) (fun K hK => ?_)
          go_big_quiet_op
          first | (refine hK _ ?_; clear hK K) | (refine ⟨_, fun _ _ => rfl, hK _ ?_⟩; clear hK K)
          conv => arg 4; whnf
          conv => arg 4; arg 1; whnf
          refine pt_free (by rfl) (fun K hK => ?_)
          go_big_quiet_op
          first | (refine hK _ ?_; clear hK K) | (refine ⟨_, fun _ _ => rfl, hK _ ?_⟩; clear hK K)
          conv => arg 4; whnf
          conv => arg 4; arg 1; whnf
          refine pt_eff (by rfl) (fun K hK => ?_)
          go_wp2_with fail
          refine (alignRows_any _ Aa Ab ra rb ra.length rb.length _ _ ⟨#[65]⟩ ⟨#[65]⟩ 1 1 rfl rfl HG.out.1 HG.out.2.1 hma hmb).mono ?_
          rintro e w4 ⟨Z, cz, rfl, hown, hb4⟩
          refine hK _ _ hb4 ?_
          clear hK K
          rw [HXY.out] at hown
          have hZ : At1 vInt w4 Z cw := At1.of_own hown (by omega)
          have hWw := HG.out.2.2.below hb4
          have HB4 := Lib.hid (HB1.out.trans (hb4.mono HB1.out.size))
          have hcl : cw.length = ra.length := by rw [← HXY.out]; exact HXL.out
          have HCL := Lib.hid hcl
          clear hown hb4 hcl
          conv => arg 4; whnf
          conv => arg 4; arg 1; whnf
          refine pt_eff (by rfl) (fun K hK => ?_)
          go_wp2_with fail
          refine (sameMap_any _ Z Aw cw cw ra.length cw.length cz _ _ HCL.out rfl hZ hWw rfl).mono ?_
          rintro e w5 ⟨rfl, hb5⟩
          refine hK _ _ hb5 ?_
          clear hK K
          have HB5 := Lib.hid (HB4.out.trans (hb5.mono HB4.out.size))
          clear hb5 hZ hWw
          conv => arg 4; whnf
          conv => arg 4; arg 1; whnf
          refine pt_free (by rfl) (fun K hK => ?_)
          go_big_quiet_op
          first | (refine hK _ ?_; clear hK K) | (refine ⟨_, fun _ _ => rfl, hK _ ?_⟩; clear hK K)
          conv => arg 4; whnf
          conv => arg 4; arg 1; whnf
          refine pt_eff (by rfl) (fun K hK => ?_)
          go_wp2_with fail
          refine (awake_any _).mono ?_
          rintro e w6 ⟨rfl, hb6⟩
          refine hK _ _ hb6 ?_
          clear hK K
          have HB6 := Lib.hid (HB5.out.trans (hb6.mono HB5.out.size))
          conv => arg 4; whnf
          conv => arg 4; arg 1; whnf
          refine pt_free (by rfl) (fun K hK => ?_)
          go_big_quiet_op
          first | (refine hK _ ?_; clear hK K) | (refine ⟨_, fun _ _ => rfl, hK _ ?_⟩; clear hK K)
          conv => arg 4; whnf
          conv => arg 4; arg 1; whnf
          refine pt_free (by rfl) (fun K hK => ?_)
          go_big_quiet_op
          first | (refine hK _ ?_; clear hK K) | (refine ⟨_, fun _ _ => rfl, hK _ ?_⟩; clear hK K)
          refine pt_nil ?_
          go_wp2
          go_ret
          exact ⟨rfl, HB6.out⟩
        · have t9 : ¬ ((r : Int) = (k : Int)) := by omega
          go_wp2
          have hrk1 : r < k := by omega
          obtain ⟨x0, x1, x2, x3, x4, x5⟩ := (F1.drew).facts
          refine wp_region_tree [7, 9] (.free 0 (.free 1 (.free 2 (.free 3 (.eff 4 (.eff 5 (.eff 6 (.last 7 (.last 8 (.last 9 .nil)))))))))) (by kernel_rfl) (by kernel_rfl) (fun _ _ d _ _ h => by cases d <;> exact h) ?_
          conv => arg 4; whnf
          conv => arg 4; arg 1; whnf
          refine pt_free (by rfl) (fun K hK => ?_)
          go_big_quiet_op
          first | (refine hK _ ?_; clear hK K) | (refine ⟨_, fun _ _ => rfl, hK _ ?_⟩; clear hK K)
          conv => arg 4; whnf
          conv => arg 4; arg 1; whnf
          refine pt_load (fun W h => load_rows _ _ W h) (p := ⟨SA, 2, none⟩) x0 x4 (by rfl) rfl rfl ?_
          simp only [Act.put, List.setIfInBounds_toArray, List.set_cons_zero, List.set_cons_succ]
          conv => arg 4; whnf
          conv => arg 4; arg 1; whnf
          refine pt_free (by rfl) (fun K hK => ?_)
          go_big_quiet_op
          first | (refine hK _ ?_; clear hK K) | (refine ⟨_, fun _ _ => rfl, hK _ ?_⟩; clear hK K)
          conv => arg 4; whnf
          conv => arg 4; arg 1; whnf
          refine pt_free (by rfl) (fun K hK => ?_)
          go_big_quiet_op
          first | (refine hK _ ?_; clear hK K) | (refine ⟨_, fun _ _ => rfl, hK _ ?_⟩; clear hK K)
          conv => arg 4; whnf
          conv => arg 4; arg 1; whnf
          refine pt_eff (by rfl) (fun K hK => ?_)
          go_wp2_with fail
          refine (digits_rd _ (100 + r) _ (by omega) (by omega)).mono ?_
          rintro e w4 ⟨rfl, hb4⟩
          refine hK _ _ hb4 ?_
          clear hK K
          have F4 := (F1.drew).keep hb4
          clear hb4 x0 x1 x2 x3 x4 x5
          rw [← rowText_of hr12]
          conv => arg 4; whnf
          conv => arg 4; arg 1; whnf
          refine pt_eff (by rfl) (fun K hK => ?_)
          go_wp2
          refine hK _ _ ((Below.refl _ _).alloc (Nat.le_refl _) _) ?_
          clear hK K
          conv => arg 4; whnf
          conv => arg 4; arg 1; whnf
          refine pt_eff (by rfl) (fun K hK => ?_)
          go_wp2
          refine hK _ _ ((Below.refl _ _).alloc (Nat.le_refl _) _) ?_
          clear hK K
          conv => arg 4; whnf
          conv => arg 4; arg 1; whnf
          refine pt_last (by rfl) (fun K hK => ?_)
          refine wp_app1 eRow (by rfl) (F4.lay (.cells #[.string (rowText r)] 9)).oa (by rfl) (by rfl) (by rw [World.size_alloc]) rfl (by omega) (F4.lay _).below.size (fun v1 w1 hown1 hg1 hk1 => ?_)
          obtain ⟨F5, y0, y1⟩ := F4.appA1 hown1 hg1 hk1
          obtain ⟨A1, c1, rfl, _⟩ := own_form hown1
          refine hK _ _ ?_
          clear hK K
          simp only [Act.put, List.setIfInBounds_toArray, List.set_cons_zero, List.set_cons_succ]
          conv => arg 4; whnf
          conv => arg 4; arg 1; whnf
          refine pt_last (by rfl) (fun K hK => ?_)
          go_wp2
          conv => arg 4; whnf
          conv => arg 4; arg 1; whnf
          refine pt_last (by rfl) (fun K hK => ?_)
          go_wp2
          refine pt_nil ?_
          generalize w1.setCell ⟨SA, 2, none⟩ (.slice A1 (ra.length + 1) c1) = wq at *
          generalize hvv : (Value.slice A1 (ra.length + 1) c1) = vv at *
          clear hown1 hg1 hk1 y0 y1 hvv F4
          have oa2 : OfCodes (ra ++ [⟨some ⟨w4.heap.size, 0, none⟩, [rowText r], 1⟩]) (List.range (r + 1)) := by rw [List.range_succ]; exact oa.snoc
          generalize ra ++ [(⟨some ⟨w4.heap.size, 0, none⟩, [rowText r], 1⟩ : SRow)] = ra2 at *
          clear oa
          obtain ⟨Aa2, ca2, rfl, _⟩ := own_form F5.oa
          obtain ⟨z0, z1, z2, z3, z4, z5⟩ := F5.facts
          by_cases t5 : (i : Int) ≤ (r : Int)
          · by_cases t6 : (r : Int) < (j : Int)
            · skip
              go_wp2_with (at_builtin; refine wpList_app1 eInt rfl rfl F5.ow rfl rfl (by first | rfl | simp) rfl (by omega) F5.below.size ?_; intro v1 w1 hown1 hg1 hk1)
              have F6 := F5.appendW hown1 hg1
              have hn1 : gone k i j put (r + 1) = (cb, cw ++ [-1]) := by
                rw [HS.out, goneStep_eq, HB.out, if_neg (by omega), if_pos (by omega)]
              go_roundw
              case rel => exact ⟨r + 1, by omega, by go_num, ⟨_, _, _, _, _, _, hn1, F6, oa2, ob2⟩⟩
              case measure => first | (simp [intOf]; done) | (simp [intOf]; omega)
            · skip
              go_wp2_with (at_builtin; refine wpList_app1 eInt rfl rfl F5.ow rfl rfl (by first | rfl | simp) rfl (by omega) F5.below.size ?_; intro v1 w1 hown1 hg1 hk1; have F6 := F5.appendW hown1 hg1; obtain ⟨y0, y1, y2, y3, y4, y5⟩ := F6.facts)
              clear y0 y1 y2 y3 y4 y5 z0 z1 z2 z3 z4 z5
              obtain ⟨Aw2, cw2, rfl, _⟩ := own_form F6.ow
              obtain ⟨x0, x1, x2, x3, x4, x5⟩ := (F6.drew).facts
              refine wp_region_tree [7, 9] (.free 0 (.free 1 (.free 2 (.free 3 (.eff 4 (.eff 5 (.eff 6 (.last 7 (.last 8 (.last 9 .nil)))))))))) (by kernel_rfl) (by kernel_rfl) (fun _ _ d _ _ h => by cases d <;> exact h) ?_
              conv => arg 4; whnf
              conv => arg 4; arg 1; whnf
              refine pt_free (by rfl) (fun K hK => ?_)
              go_big_quiet_op
              first | (refine hK _ ?_; clear hK K) | (refine ⟨_, fun _ _ => rfl, hK _ ?_⟩; clear hK K)
              conv => arg 4; whnf
              conv => arg 4; arg 1; whnf
              refine pt_load (fun W h => load_rows _ _ W h) (p := ⟨SB, 2, none⟩) x2 x5 (by rfl) rfl rfl ?_
              simp only [Act.put, List.setIfInBounds_toArray, List.set_cons_zero, List.set_cons_succ]
              conv => arg 4; whnf
              conv => arg 4; arg 1; whnf
              refine pt_free (by rfl) (fun K hK => ?_)
              go_big_quiet_op
              first | (refine hK _ ?_; clear hK K) | (refine ⟨_, fun _ _ => rfl, hK _ ?_⟩; clear hK K)
              conv => arg 4; whnf
              conv => arg 4; arg 1; whnf
              refine pt_free (by rfl) (fun K hK => ?_)
              go_big_quiet_op
              first | (refine hK _ ?_; clear hK K) | (refine ⟨_, fun _ _ => rfl, hK _ ?_⟩; clear hK K)
              conv => arg 4; whnf
              conv => arg 4; arg 1; whnf
              refine pt_eff (by rfl) (fun K hK => ?_)
              go_wp2_with fail
              refine (digits_rd _ (100 + r) _ (by omega) (by omega)).mono ?_
              rintro e w4 ⟨rfl, hb4⟩
              refine hK _ _ hb4 ?_
              clear hK K
              have F4 := (F6.drew).keep hb4
              clear hb4 x0 x1 x2 x3 x4 x5
              rw [← rowText_of hr12]
              conv => arg 4; whnf
              conv => arg 4; arg 1; whnf
              refine pt_eff (by rfl) (fun K hK => ?_)
              go_wp2
              refine hK _ _ ((Below.refl _ _).alloc (Nat.le_refl _) _) ?_
              clear hK K
              conv => arg 4; whnf
              conv => arg 4; arg 1; whnf
              refine pt_eff (by rfl) (fun K hK => ?_)
              go_wp2
              refine hK _ _ ((Below.refl _ _).alloc (Nat.le_refl _) _) ?_
              clear hK K
              conv => arg 4; whnf
              conv => arg 4; arg 1; whnf
              refine pt_last (by rfl) (fun K hK => ?_)
              refine wp_app1 eRow (by rfl) (F4.lay (.cells #[.string (rowText r)] 9)).ob (by rfl) (by rfl) (by rw [World.size_alloc]) rfl (by omega) (F4.lay _).below.size (fun v1 w1 hown1 hg1 hk1 => ?_)
              obtain ⟨F7, y0, y1⟩ := F4.appB1 hown1 hg1 hk1
              obtain ⟨A1, c1, rfl, _⟩ := own_form hown1
              refine hK _ _ ?_
              clear hK K
              simp only [Act.put, List.setIfInBounds_toArray, List.set_cons_zero, List.set_cons_succ]
              conv => arg 4; whnf
              conv => arg 4; arg 1; whnf
              refine pt_last (by rfl) (fun K hK => ?_)
              go_wp2
              conv => arg 4; whnf
              conv => arg 4; arg 1; whnf
              refine pt_last (by rfl) (fun K hK => ?_)
              go_wp2
              refine pt_nil ?_
              generalize w1.setCell ⟨SB, 2, none⟩ (.slice A1 (rb.length + 1) c1) = wq at *
              generalize hvv : (Value.slice A1 (rb.length + 1) c1) = vv at *
              clear hown1 hg1 hk1 y0 y1 hvv F4
              have ob3 : OfCodes (rb ++ [⟨some ⟨w4.heap.size, 0, none⟩, [rowText r], 1⟩]) (cb ++ [r]) := ob2.snoc
              go_wp2
              have hn1 : gone k i j put (r + 1) = (cb ++ [r], cw ++ [(rb.length : Int)]) := by
                rw [HS.out, goneStep_eq, HB.out, if_neg (by omega), if_neg (by omega)]; rw [ob2.len]
              go_roundw
              case rel => exact ⟨r + 1, by omega, by go_num, ⟨_, _, _, _, _, _, hn1, F7, oa2, ob3⟩⟩
              case measure => first | (simp [intOf]; done) | (simp [intOf]; omega)
          · skip
            go_wp2_with (at_builtin; refine wpList_app1 eInt rfl rfl F5.ow rfl rfl (by first | rfl | simp) rfl (by omega) F5.below.size ?_; intro v1 w1 hown1 hg1 hk1; have F6 := F5.appendW hown1 hg1; obtain ⟨y0, y1, y2, y3, y4, y5⟩ := F6.facts)
            clear y0 y1 y2 y3 y4 y5 z0 z1 z2 z3 z4 z5
            obtain ⟨Aw2, cw2, rfl, _⟩ := own_form F6.ow
            obtain ⟨x0, x1, x2, x3, x4, x5⟩ := (F6.drew).facts
            refine wp_region_tree [7, 9] (.free 0 (.free 1 (.free 2 (.free 3 (.eff 4 (.eff 5 (.eff 6 (.last 7 (.last 8 (.last 9 .nil)))))))))) (by kernel_rfl) (by kernel_rfl) (fun _ _ d _ _ h => by cases d <;> exact h) ?_
            conv => arg 4; whnf
            conv => arg 4; arg 1; whnf
            refine pt_free (by rfl) (fun K hK => ?_)
            go_big_quiet_op
            first | (refine hK _ ?_; clear hK K) | (refine ⟨_, fun _ _ => rfl, hK _ ?_⟩; clear hK K)
            conv => arg 4; whnf
            conv => arg 4; arg 1; whnf
            refine pt_load (fun W h => load_rows _ _ W h) (p := ⟨SB, 2, none⟩) x2 x5 (by rfl) rfl rfl ?_
            simp only [Act.put, List.setIfInBounds_toArray, List.set_cons_zero, List.set_cons_succ]
            conv => arg 4; whnf
            conv => arg 4; arg 1; whnf
            refine pt_free (by rfl) (fun K hK => ?_)
            go_big_quiet_op
            first | (refine hK _ ?_; clear hK K) | (refine ⟨_, fun _ _ => rfl, hK _ ?_⟩; clear hK K)
            conv => arg 4; whnf
            conv => arg 4; arg 1; whnf
            refine pt_free (by rfl) (fun K hK => ?_)
            go_big_quiet_op
            first | (refine hK _ ?_; clear hK K) | (refine ⟨_, fun _ _ => rfl, hK _ ?_⟩; clear hK K)
            conv => arg 4; whnf
            conv => arg 4; arg 1; whnf
            refine pt_eff (by rfl) (fun K hK => ?_)
            go_wp2_with fail
            refine (digits_rd _ (100 + r) _ (by omega) (by omega)).mono ?_
            rintro e w4 ⟨rfl, hb4⟩
            refine hK _ _ hb4 ?_
            clear hK K
            have F4 := (F6.drew).keep hb4
            clear hb4 x0 x1 x2 x3 x4 x5
            rw [← rowText_of hr12]
            conv => arg 4; whnf
            conv => arg 4; arg 1; whnf
            refine pt_eff (by rfl) (fun K hK => ?_)
            go_wp2
            refine hK _ _ ((Below.refl _ _).alloc (Nat.le_refl _) _) ?_
            clear hK K
            conv => arg 4; whnf
            conv => arg 4; arg 1; whnf
            refine pt_eff (by rfl) (fun K hK => ?_)
            go_wp2
            refine hK _ _ ((Below.refl _ _).alloc (Nat.le_refl _) _) ?_
            clear hK K
            conv => arg 4; whnf
            conv => arg 4; arg 1; whnf
            refine pt_last (by rfl) (fun K hK => ?_)
            refine wp_app1 eRow (by rfl) (F4.lay (.cells #[.string (rowText r)] 9)).ob (by rfl) (by rfl) (by rw [World.size_alloc]) rfl (by omega) (F4.lay _).below.size (fun v1 w1 hown1 hg1 hk1 => ?_)
            obtain ⟨F7, y0, y1⟩ := F4.appB1 hown1 hg1 hk1
            obtain ⟨A1, c1, rfl, _⟩ := own_form hown1
            refine hK _ _ ?_
            clear hK K
            simp only [Act.put, List.setIfInBounds_toArray, List.set_cons_zero, List.set_cons_succ]
            conv => arg 4; whnf
            conv => arg 4; arg 1; whnf
            refine pt_last (by rfl) (fun K hK => ?_)
            go_wp2
            conv => arg 4; whnf
            conv => arg 4; arg 1; whnf
            refine pt_last (by rfl) (fun K hK => ?_)
            go_wp2
            refine pt_nil ?_
            generalize w1.setCell ⟨SB, 2, none⟩ (.slice A1 (rb.length + 1) c1) = wq at *
            generalize hvv : (Value.slice A1 (rb.length + 1) c1) = vv at *
            clear hown1 hg1 hk1 y0 y1 hvv F4
            have ob3 : OfCodes (rb ++ [⟨some ⟨w4.heap.size, 0, none⟩, [rowText r], 1⟩]) (cb ++ [r]) := ob2.snoc
            go_wp2
            have hn1 : gone k i j put (r + 1) = (cb ++ [r], cw ++ [(rb.length : Int)]) := by
              rw [HS.out, goneStep_eq, HB.out, if_neg (by omega), if_neg (by omega)]; rw [ob2.len]
            go_roundw
            case rel => exact ⟨r + 1, by omega, by go_num, ⟨_, _, _, _, _, _, hn1, F7, oa2, ob3⟩⟩
            case measure => first | (simp [intOf]; done) | (simp [intOf]; omega)
end Go.Proofs.Ythoccmgfpjfkoaa
