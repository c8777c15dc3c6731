/- The walk of past.Log. Written by plogwalk.py. -/
import Derived.Test.YtfhgnolfhiffbaaPLogMem
namespace Go.Proofs.Ytfhgnolfhiffbaa
open Go.RowKit Go.Maps
theorem own_litN {w : World} {base : Nat} {s : ByteArray} {d : Int} (hb : base ≤ w.heap.size) :
    (w.alloc (.cells #[.string s, .int .i64 d] 45)).ownsRow base 45 2 (.slice (some ⟨w.heap.size, 0, none⟩) 1 1) 1 (cells2 [(s, d)]) :=
  ⟨rfl, .inr ⟨w.heap.size, 1, _, rfl, hb, heap_alloc_new w _, Nat.le_refl _, by unfold maxLen; decide, rfl, rfl⟩⟩
theorem box_kept {w w' : World} {base n size b : Nat} {e t : TypeId} {v : Value} {xs : List Value} {cs : Array Value} (h : w.ownsRow base e size v n xs) (hg : w.grownBy w' v.ownBlock) (hk : w.heap[b]? = some (.cells cs t (0, 0))) (hne : t ≠ e) : w'.heap[b]? = some (.cells cs t (0, 0)) :=
  (hg.block b (Array.getElem?_eq_some_iff.1 hk).1 (fun e2 => by
    obtain ⟨⟨cur, hc⟩, _⟩ := own_kind' h e2.symm
    rw [hk] at hc
    injection hc with hc
    injection hc with _ hc
    exact hne hc)).trans hk
theorem node_cell0 {w : World} {b : Nat} {u v : Value} {t : TypeId} {fr : Nat × Nat} (hk : w.heap[b]? = some (.cells #[u, v] t fr)) : w.cell? ⟨b, 0, none⟩ = some u := by
  unfold World.cell?
  rw [hk]
  rfl
def sliceLen (v : Value) : Nat := match v with | .slice _ n _ => n | _ => 0
def LogPost (w : World) (l : List HC) (x : ByteArray) (e : Ending) (w' : World) : Prop := ∃ B cap g, e = .returned (.slice B g.length cap) ∧ At1 vStr w' B g ∧ LogIs l x g ∧ Below w.heap.size w w'
set_option maxRecDepth 100000 in
theorem log_none (w : World) (A : Option Addr) (l : List HC) (c : Nat) (h : AtC w A l) (x : ByteArray) (hx : posI (idsOf l) x = -1) :
    Calls Try.prog 10 #[.slice A l.length c, .string x] w fun e w' => e = .returned (.slice none 0 0) ∧ Below w.heap.size w w' := by
  go_enter Try.func10, Try.ntmps10
  go_wp2_with fail
  refine (find_any _ A l c h x).mono ?_
  rintro e w1 ⟨rfl, hb1⟩
  rw [hx]
  go_wp2
  go_ret
  exact ⟨rfl, hb1⟩
set_option maxRecDepth 100000 in
set_option maxHeartbeats 4000000 in
theorem log_any (w : World) (A : Option Addr) (l : List HC) (c : Nat) (h : AtC w A l) (hh : Hist l) (hs : ∀ y ∈ l, y.id.size ≤ maxLen ∧ ∀ p ∈ y.ps, p.size ≤ maxLen) (hL : l.length ≤ 1000) (x : ByteArray) (hx : x ∈ idsOf l) :
    Calls Try.prog 10 #[.slice A l.length c, .string x] w (LogPost w l x) := by
  have hxi := mem_ids.1 hx
  have hp0 : posI (idsOf l) x = (posN (idsOf l) x : Int) := by unfold posI; rw [if_pos (by rw [idsOf_len]; exact hxi)]
  have hxs : x.size ≤ maxLen := by
    obtain ⟨y, hy, rfl⟩ := posN_id hxi
    exact (hs y (List.mem_of_getElem? hy)).1
  obtain ⟨k0, hk0⟩ : ∃ k0, posN (idsOf l) x = k0 := ⟨_, rfl⟩
  rw [hk0] at hp0
  clear hk0 hxi
  have hmm := @run_makeMap Try.prog
  have HX := Lib.hid hx
  have HSZ := Lib.hid hs
  clear hx hs
  go_enter Try.func10, Try.ntmps10
  go_wp2_with fail
  refine (find_any _ A l c h x).mono ?_
  rintro e w1 ⟨rfl, hb1⟩
  rw [hp0]
  clear hp0
  go_wp2_with fail
  refine (depths_any _ A l c (h.below hb1) HSZ.out hL).mono ?_
  rintro e w2 ⟨b1, n1, D1, rfl, hM1, hn1, hb1l, hb2⟩
  have hb3 := hb1.trans (hb2.mono hb1.size)
  have hs3 := hb3.size
  have hb1lt := hM1.lt
  have hbb : Below w2.heap.size w2 (w2.alloc (.map #[] 0)) := (Below.refl _ _).alloc (Nat.le_refl _) _
  have hM2 := MapF.made w2
  have hM1 := hM1.below hbb
  have hb4 := hb3.trans (hbb.mono hs3)
  have hne : b1 ≠ w2.heap.size := by omega
  clear hbb hb1 hb2 hb1lt
  go_wp2_with fail
  obtain ⟨b2, hb2e⟩ : ∃ b2, w2.heap.size = b2 := ⟨_, rfl⟩
  obtain ⟨wa, hwa⟩ : ∃ wa, wa = w2.alloc (.map #[] 0) := ⟨_, rfl⟩
  rw [hb2e] at hM2 hne hs3
  rw [← hwa] at hM1 hM2 hb4
  (try rw [← hwa]); (try rw [hb2e])
  clear hwa hb2e hb3 hmm
  with_reducible refine upon_putF Try.underlying42 hM2 (by unfold maxLen; decide) hxs ?_
  intro wb D2 hM3 hg3
  have hM4 : MapF wb b2 1 D2 (seenF [x]) := by
    have e : setF (fun _ => none) x (.bool true) = seenF [x] := seenF_set (S := []) (by simp)
    rw [← e]; exact hM3
  have hM5 : MapF wb b1 n1 D1 (asV (depF l)) := hM1.kept (hg3.block _ hM1.lt (fun e => hne (Option.some.inj e)))
  have hb5 := below_mapU hb4 hg3 hs3 hb4.size
  clear hM1 hM2 hM3 hg3 hb4
  go_wp2_with (with_reducible refine upon_getF Try.underlying40 (zInt _) hM5 hxs ?_; rw [get_asV])
  have hbase := hb5.size
  have hbc : Below wb.heap.size wb ((wb.alloc (.cells #[.string x, .int .i64 ((depF l x).getD 0)] 45)).alloc (.cells #[.slice (some ⟨wb.heap.size, 0, none⟩) 1 1] 47)) := ((Below.refl _ _).alloc (Nat.le_refl _) _).alloc (by simp) _
  have hcell : ((wb.alloc (.cells #[.string x, .int .i64 ((depF l x).getD 0)] 45)).alloc (.cells #[.slice (some ⟨wb.heap.size, 0, none⟩) 1 1] 47)).heap[wb.heap.size + 1]? = some (.cells #[.slice (some ⟨wb.heap.size, 0, none⟩) 1 1] 47 (0, 0)) := by
    have h9 := heap_alloc_new (wb.alloc (.cells #[.string x, .int .i64 ((depF l x).getD 0)] 45)) (.cells #[.slice (some ⟨wb.heap.size, 0, none⟩) 1 1] 47)
    rw [World.size_alloc] at h9
    exact h9
  have hLM : LM w ((wb.alloc (.cells #[.string x, .int .i64 ((depF l x).getD 0)] 45)).alloc (.cells #[.slice (some ⟨wb.heap.size, 0, none⟩) 1 1] 47)) l b1 b2 (wb.heap.size + 1) (allS [(x, dep l x)] []).length (.slice (some ⟨wb.heap.size, 0, none⟩) 1 1) [(x, dep l x)] (.slice none 0 0) [] (allS [(x, dep l x)] []) :=
    ⟨⟨_, _, hM5.below hbc⟩, ⟨_, hM4.below hbc⟩, ⟨hcell, (own_litN hbase).alloc _⟩, World.ownsRow_nil _ _ _ _, hb5.trans (hbc.mono hbase), hne, by omega, hs3⟩
  have hLS := LS.init HX.out
  obtain ⟨Q, hQ⟩ : ∃ Q, wb.heap.size + 1 = Q := ⟨_, rfl⟩
  obtain ⟨wc, hwc⟩ : ∃ wc, wc = ((wb.alloc (.cells #[.string x, .int .i64 ((depF l x).getD 0)] 45)).alloc (.cells #[.slice (some ⟨wb.heap.size, 0, none⟩) 1 1] 47)) := ⟨_, rfl⟩
  rw [← hwc] at hLM ⊢
  rw [hQ] at hLM ⊢
  have HA := Lib.hid (fun W (hW : Below w.heap.size w W) => h.below hW)
  clear hwc hQ hcell hbc hM4 hM5 hb5 hbase
  have hta := assertNode
  go_loopw [8] (fun vo wr => ∃ (q : List Nd) (v : Value) (out : List ByteArray), LM w wr l b1 b2 Q (allS q out).length v q vo out (allS q out) ∧ LS l x q out (fun _ => [])) (fun vo _ => l.length - sliceLen vo)
  case atStart => exact ⟨_, _, [], hLM, hLS⟩
  case round =>
    obtain ⟨q, v, out, hm, hl⟩ := hrel
    clear hLM hLS
    have hsmall := hl.small
    obtain ⟨B, cap, rfl, hBc, _⟩ := own_form hm.ow
    go_wp2_with fail
    refine (qlen_any wr Q _ v q hm.qs).mono ?_
    rintro e wq ⟨rfl, rfl⟩
    cases hq0 : q with
    | nil =>
      subst hq0
      have HD := Lib.hid hl.done
      have HO := Lib.hid hm.ow
      have hb9 := hm.be
      have hol : out.length ≤ 1000 := by simp at hsmall; omega
      clear hl hm
      go_wp2
      refine bodyPost_ret (v := .slice B out.length cap) (by simp [results, Try.f10, go_sem]) rfl ⟨B, cap, out, rfl, At1.of_own (n := out.length) HO.out (by omega), HD.out, hb9⟩
    | cons x0 q1 =>
      have hx0 : q[0]? = some x0 := by rw [hq0]; rfl
      have hqp : 0 < q.length := by rw [hq0]; simp
      have hg : decide (0 < (q.length : Int)) = true := decide_eq_true (by omega)
      have hql : q.length ≤ 1000 := by omega
      rw [← hq0]
      clear hq0
      go_wp2_with fail
      refine (hpop_any wq Q _ v q hm.qs (by omega) hqp x0 hx0).mono ?_
      rintro e w5 ⟨v5, rfl, hq5, hmm5⟩
      have hm5 := hm.queue hq5 hmm5
      have hl5 := hl.pop hx0
      have hperm := allS_perm (out := out) (hpop_heap hl.heap hx0).2.1
      have hxq : x0 ∈ q := List.mem_of_getElem? hx0
      have hx0i := hl.ids x0.1 (List.mem_append.2 (.inr (List.mem_map.2 ⟨x0, hxq, rfl⟩)))
      clear hq5 hmm5 hm hl hx0 hqp hg hxq
      obtain ⟨y, hy, hyid⟩ := posN_id (mem_ids.1 hx0i)
      have hpi : posI (idsOf l) x0.1 = (posN (idsOf l) x0.1 : Int) := by unfold posI; rw [if_pos (by rw [idsOf_len]; exact mem_ids.1 hx0i)]
      have hpsy : psOf l x0.1 = y.ps := by rw [← hyid]; exact psOf_at (by rw [hyid]; exact hy)
      obtain ⟨k, hk⟩ : ∃ k, posN (idsOf l) x0.1 = k := ⟨_, rfl⟩
      rw [hk] at hy hpi
      have hbx : Below w5.heap.size w5 (w5.alloc (.cells #[.string x0.1, .int .i64 x0.2] 45)) := (Below.refl _ _).alloc (Nat.le_refl _) _
      have hm6 := hm5.below hbx
      have hbox := heap_alloc_new w5 (.cells #[.string x0.1, .int .i64 x0.2] 45)
      have HPI := Lib.hid hpi
      have HPS := Lib.hid hpsy
      have HYI := Lib.hid hyid
      have HL5 := Lib.hid hl5
      have HPE := Lib.hid hperm
      have hol : out.length ≤ 1000 := by omega
      have hkl : k < l.length := (List.getElem?_eq_some_iff.1 hy).1
      clear hk hyid hl5 hperm hpi hpsy hbx hm5
      go_wp2_with (at_builtin; go_loud (refine wpList_app1 eStr rfl rfl hm6.ow rfl rfl (World.size_alloc _ _) rfl (by omega) hm6.be.size ?_; intro v1 w9 hown9 hg1 hk1; obtain ⟨A9, c9, rfl, _⟩ := own_form hown9; have hm7 := (hm6.tell hown9 hg1).seenAs (fun s => (HPE.out.mem_iff (a := s)).symm); have hb9 := hm7.be; have hB := box_kept hm6.ow hg1 hbox (by decide); have hB0 := node_cell0 hB; clear hg1 hk1 hown9 hm6 hbox hB))
      refine (find_any w9 _ l c (HA.out _ hb9) x0.1).mono ?_
      rintro e w10 ⟨rfl, hb10⟩
      rw [HPI.out]
      have hm8 := hm7.below hb10
      rw [← HPE.out.length_eq] at hm8
      have hbA := hm8.be
      obtain ⟨bb, oo, hAe, hcc⟩ := (HA.out _ hbA).2.2 (by omega)
      obtain ⟨c0, c1, _, _⟩ := hcc k y hy
      subst hAe
      have hl9 : LS l x (hpopL q) (out ++ [x0.1]) (fun o => if o = x0.1 then y.ps.drop 0 else []) := by rw [List.drop_zero, ← HPS.out]; exact HL5.out
      obtain ⟨O, hO⟩ : ∃ O, out ++ [x0.1] = O := ⟨_, rfl⟩
      have hOl : O.length = out.length + 1 := by rw [← hO]; simp
      have hxO : x0.1 ∈ O := by rw [← hO]; simp
      have hlast : ∀ o ∈ O, ndLe (o, dep l o) (x0.1, dep l x0.1) := by
        have h5 := HL5.out.sorted
        rw [← hO]
        intro o ho
        rcases List.mem_append.1 ho with ho | ho
        · exact (List.pairwise_append.1 h5).2.2 o ho x0.1 (by simp)
        · simp at ho; subst ho; exact ndLe.refl _
      rw [hO] at hm8 hl9
      have HLA := Lib.hid hlast
      have HXO := Lib.hid hxO
      have hym := List.mem_of_getElem? hy
      obtain ⟨yn, hyn⟩ : ∃ yn, y.ps.length = yn := ⟨_, rfl⟩
      rw [hyn] at c1
      have hyl : yn ≤ 9223372036854775807 := by rw [← hyn]; exact ((HA.out _ hbA).2.1 y hym).1
      have HYN := Lib.hid hyn
      clear hcc hb10 hm7 hbA hb9 hB0 HL5 HPE hO hlast hxO hyn hx0i
      go_wp2_with fail
      go_loopw [53] (fun jv wr => ∃ (j : Nat) (q' : List Nd) (v' : Value), j ≤ yn ∧ jv = .int .i64 j ∧ LM w wr l b1 b2 Q (allS q' O).length v' q' (.slice A9 (out.length + 1) c9) O (allS q' O) ∧ LS l x q' O (fun o => if o = x0.1 then y.ps.drop j else [])) (fun jv _ => yn - (intOf jv).toNat)
      case atStart => exact ⟨0, _, _, Nat.zero_le _, rfl, hm8, hl9⟩
      case round =>
        obtain ⟨j, q', v', hj, rfl, hm, hl⟩ := hrel
        clear hm8 hl9
        have hsm := hl.small
        have hal : (allS q' O).length < maxLen := by unfold allS maxLen; rw [List.length_append, List.length_map]; omega
        rcases Nat.lt_or_ge j yn with hjn | hjn
        · obtain ⟨p, hpj⟩ : ∃ p, y.ps[j]? = some p := ⟨_, List.getElem?_eq_getElem (by rw [HYN.out]; exact hjn)⟩
          have hpm := List.mem_of_getElem? hpj
          have hps := (HSZ.out y hym).2 p hpm
          have hdr : y.ps.drop j = p :: y.ps.drop (j + 1) := by
            obtain ⟨h8, h9⟩ := List.getElem?_eq_some_iff.1 hpj
            rw [List.drop_eq_getElem_cons h8, h9]
          rw [hdr] at hl
          obtain ⟨pa, hpa, hpc⟩ := ((HA.out _ hm.be).2.1 y hym).2 (by rw [HYN.out]; omega)
          have hp1 := hpc j p hpj
          obtain ⟨yA, hyA⟩ : ∃ yA, y.A = yA := ⟨_, rfl⟩
          rw [hyA] at c1 hpa ⊢
          subst hpa
          obtain ⟨D3, hM3⟩ := hm.m2
          have HM := Lib.hid hm
          have HLL := Lib.hid hl
          have HPJ := Lib.hid hpm
          clear hdr hpc hm hl hyA hpm hpj
          cases hs : hasB (allS q' O) p with
          | true =>
            have HS := Lib.hid (hasB_iff.1 hs)
            go_wp2_with (with_reducible refine upon_getF Try.underlying42 (zBool _) hM3 hps ?_; rw [get_seen, hs])
            go_roundw
            case rel => exact ⟨j + 1, q', v', by omega, by go_num, HM.out, HLL.out.skip HS.out⟩
            case measure => first | (simp [intOf]; done) | (simp [intOf]; omega)
          | false =>
            have HS := Lib.hid (hasB_no.1 hs)
            go_wp2_with (with_reducible refine upon_getF Try.underlying42 (zBool _) hM3 hps ?_; rw [get_seen, hs])
            with_reducible refine upon_putF Try.underlying42 hM3 hal hps ?_
            intro wz D4 hM4 hg4
            have hm9 := HM.out.see (T := allS q' O ++ [p]) (by rw [← seenF_set (S := allS q' O) (p := p) (fun s => by rw [List.mem_append, List.mem_singleton])]; exact hM4) hg4
            obtain ⟨n5, D5, hM5⟩ := hm9.m1
            clear hM4 hg4 hM3
            go_wp2_with (with_reducible refine upon_getF Try.underlying40 (zInt _) hM5 hps ?_; rw [get_asV])
            refine (hpush_any wz Q _ v' q' hm9.qs p ((depF l p).getD 0) (by omega) hm9.be.size).mono ?_
            rintro e w11 ⟨v11, rfl, hq11, hmm11⟩
            have hl12 := HLL.out.push hh HS.out HXO.out (by rw [HPS.out]; exact HPJ.out) HLA.out
            have hp5 : (allS (hpushL q' (p, dep l p)) O).Perm (allS q' O ++ [p]) := by
              unfold allS
              rw [List.append_assoc]
              exact List.Perm.append_left _ (by simpa using (hpush_heap HLL.out.heap (p, dep l p)).2.map Prod.fst)
            have hm12 := (hm9.queue hq11 hmm11).seenAs (fun s => (hp5.mem_iff (a := s)).symm)
            have hn12 : (allS q' O).length + 1 = (allS (hpushL q' (p, dep l p)) O).length := by have := hp5.length_eq; simp only [List.length_append, List.length_cons, List.length_nil] at this ⊢; omega
            rw [hn12] at hm12
            have HM12 := Lib.hid hm12
            have HL12 := Lib.hid hl12
            clear hm12 hl12 hp5 hn12 hq11 hmm11 hm9 hM5
            go_wp2_with fail
            go_roundw
            case rel => exact ⟨j + 1, _, v11, by omega, by go_num, HM12.out, HL12.out⟩
            case measure => first | (simp [intOf]; done) | (simp [intOf]; omega)
        · obtain rfl : j = yn := by omega
          have hdr : y.ps.drop j = [] := List.drop_eq_nil_of_le (by rw [HYN.out]; exact Nat.le_refl _)
          rw [hdr] at hl
          have HLL := Lib.hid hl.over
          have HM := Lib.hid hm
          clear hl hm hdr
          go_wp2_with fail
          go_roundw
          case rel => exact ⟨q', v', O, HM.out, HLL.out⟩
          case measure => simp only [sliceLen]; omega
end Go.Proofs.Ytfhgnolfhiffbaa
