/- PutText, put, Put, by labels. · SameSteps, SamePatch, by labels. · Plain laws on numbers as bytes (numbers below 256): no program in sight. · Get, GetText, the Reader's Num and Text, by labels. · GetText; the Reader: Num, Text, by labels. · patch.steps, patch.Get, by labels. · Plain laws: a patch is told by its bytes; cut it is not. · chequerlaw17.Step, chequerref1.Digits, by labels. · patch.Undo as it stands for itself; patches that are built; by labels. · A patch that is being built. · PatchUndo's three loops that build the patch. · PatchUndo: what is built is small; boxes of patches. · PatchUndo: its end. -/
import Derived.Test.YtpimnaojhaeiiaaGreatDoorMg5
namespace Go.Proofs.YtpimnaojhaeiiaaGreatDoor.VM
open Go
set_option linter.unusedVariables false
noncomputable section
theorem pu_call (f : Nat) (al : List V) (h : Hp) (k : V → Hp → Prop) : (Pu EE).call f al h k ↔ Ans EE f al h k := Iff.rfl
abbrev OwnB (N : Nat) (h : Hp) (v : V) (l : List Nat) : Prop := Own N h v 5 1 l.length (l.map vB)
theorem cells_vB (l : List Nat) : allCells (l.map vB) = true := by
  induction l with
  | nil => rfl
  | cons b l ih => rw [List.map_cons, allCells]; simp only [vB, V.isCell, cond_true]; exact ih
theorem put_ok (n : Nat) (h : Hp) (hfit : (putL n).length ≤ 1000000) : Ans EE 27 [.int .i64 n] h fun v h' => OwnB h.n h' v (putL n) ∧ Ext h.n h h' := put_any n h hfit
theorem app_raw {N : Nat} {h : Hp} {v y : V} {l ws : List Nat} (K : Nat → Prop) (o : OwnB N h v l) (hK : ∀ c, K c → c < h.n ∧ blkOf v ≠ some c) (hN : N ≤ h.n) (r : Rd h 1 y ws.length (ws.map vB)) (hlen : l.length + ws.length ≤ 1000000) {q : V → Hp → Prop}
    (hq : ∀ v' h', OwnB N h' v' (l ++ ws) → (∀ c, K c → h'.t.get c = h.t.get c ∧ c < h'.n ∧ blkOf v' ≠ some c) → Ext N h h' → q v' h') : (Pu EE).ebui h #[22, 22] .append [v, y] q := by
  obtain ⟨v', h', h1, h2, h3, h4, h5⟩ := append_bytes o r (cells_vB ws) (by omega) hN
  rw [h1]
  refine hq v' h' ?_ (fun c hc => ?_) h3
  · rw [OwnB, List.length_append, List.map_append]; exact h2
  · obtain ⟨k1, k2⟩ := hK c hc
    refine ⟨h4 c k1 k2, Nat.lt_of_lt_of_le k1 h3.n, fun e => ?_⟩
    rcases h5 c e with k | k
    · exact k2 k
    · omega
/-- what a call makes is put behind -/
theorem app_step {N : Nat} {h : Hp} {v : V} {l ws : List Nat} {f : Nat} {al : List V} (K : Nat → Prop) (o : OwnB N h v l) (hK : ∀ c, K c → c < h.n ∧ blkOf v ≠ some c) (hN : N ≤ h.n) (ha : Ans EE f al h fun y h' => OwnB h.n h' y ws ∧ Ext h.n h h') (hlen : l.length + ws.length ≤ 1000000) {q : V → Hp → Prop}
    (hq : ∀ v' h', OwnB N h' v' (l ++ ws) → (∀ c, K c → h'.t.get c = h.t.get c ∧ c < h'.n ∧ blkOf v' ≠ some c) → Ext N h h' → q v' h') : Ans EE f al h fun y h1 => (Pu EE).ebui h1 #[22, 22] .append [v, y] q := by
  refine ha.mono fun y h1 ⟨oy, x⟩ => ?_
  have o1 : OwnB N h1 v l := o.keep x.n (fun c hc => x.old c (o.in_ c hc))
  refine app_raw K o1 (fun c hc => ⟨Nat.lt_of_lt_of_le (hK c hc).1 x.n, (hK c hc).2⟩) (Nat.le_trans hN x.n) oy.rd hlen fun v' h' o' k x' => hq v' h' o' (fun c hc => ?_) ((x.mono hN).trans x')
  obtain ⟨k1, k2, k3⟩ := k c hc
  exact ⟨k1.trans (x.old c (hK c hc).1), k2, k3⟩
def putT (s : List Nat) : List Nat := putL s.length ++ s
theorem s_string : ∃ iu, EE.ty.get 9 = some iu ∧ ∀ k, iu.k ≠ .int k := by
  obtain ⟨i, h1, h2⟩ := st_string; exact ⟨i, h1, fun k => by rw [h2]; simp⟩
theorem pu_strlen (h : Hp) (s : List Nat) (q : V → Prop) : (Pu EE).lbui h #[9] .len [.str s] q ↔ q (.int .i64 s.length) := by
  obtain ⟨i, h1, h2⟩ := st_string; exact pu_slen _ i h h1 h2 s q
theorem putText_ok (s : List Nat) (h : Hp) (h1 : (putL s.length).length ≤ 100) (h2 : s.length ≤ 100000) : Ans EE 28 [.str s] h fun v h' => OwnB h.n h' v (putT s) ∧ Ext h.n h h' := by
  apply a_code_PutText
  unfold t_code_PutText_0
  rw [pu_strlen, pu_call]
  refine (put_ok s.length h (by omega)).mono fun v h' ⟨o, x⟩ => ?_
  obtain ⟨v2, h3, g1, g2, g3, _, _⟩ := own_append (y := .str s) (n := s.length) (ws := s.map vB) o (ts := #[22, 9]) rfl rfl s_sl_uint8 s_string l_uint8 rfl (fun _ => rfl) (cells_vB s) (by omega) x.n
  rw [g1]
  refine ⟨?_, x.trans g3⟩
  rw [OwnB, putT, List.length_append, List.map_append]
  exact g2
/-- a step, as numbers and texts -/
structure Stp where
  k : Nat
  s : List Nat
  a : Nat
  c : Nat
  n : Nat
  t : List Nat
  deriving DecidableEq
def Stp.cells (x : Stp) : List V := [.int .i64 x.k, .str x.s, .int .i64 x.a, .int .i64 x.c, .int .i64 x.n, .str x.t]
def putStp (x : Stp) : List Nat := putL x.k ++ putT x.s ++ putL x.a ++ putL x.c ++ putL x.n ++ putT x.t
def cellsS (l : List Stp) : List V := l.flatMap Stp.cells
abbrev RdS (h : Hp) (v : V) (l : List Stp) : Prop := Rd h 6 v l.length (cellsS l)
structure Stp.ok (x : Stp) : Prop where
  k : (putL x.k).length ≤ 100
  s : (putL x.s.length).length ≤ 100
  s2 : x.s.length ≤ 1000
  a : (putL x.a).length ≤ 100
  c : (putL x.c).length ≤ 100
  n : (putL x.n).length ≤ 100
  t : (putL x.t.length).length ≤ 100
  t2 : x.t.length ≤ 1000
theorem Stp.ok.len {x : Stp} (o : x.ok) : (putStp x).length ≤ 3000 := by
  have := o.k; have := o.s; have := o.s2; have := o.a; have := o.c; have := o.n; have := o.t; have := o.t2
  simp only [putStp, putT, List.length_append]; omega
theorem cellsS_at : ∀ (l : List Stp) (i : Nat) (x : Stp), l[i]? = some x → ((cellsS l).drop (i * 6)).take 6 = x.cells
  | [], i, x, h => by simp at h
  | y :: l, 0, x, h => by
    simp at h; subst h
    simp only [cellsS, List.flatMap_cons, Nat.zero_mul, List.drop_zero]
    exact List.take_left' rfl
  | y :: l, i + 1, x, h => by
    have := cellsS_at l i x (by simpa using h)
    rw [← this]
    simp only [cellsS, List.flatMap_cons]
    rw [show (i + 1) * 6 = y.cells.length + i * 6 by simp [Stp.cells]; omega, List.drop_append, List.drop_of_length_le (by simp [Stp.cells])]
    simp
theorem min4 (a b c d : Nat) : ∃ m : Nat, ∀ (h : Hp) (ts : Array TypeId) (q : V → Prop), (Pu EE).lbui h ts .min [.int .i64 a, .int .i64 b, .int .i64 c, .int .i64 d] q ↔ q (.int .i64 m) := by
  refine ⟨min (min (min a b) c) d, fun h ts q => ?_⟩
  show (∃ v, lBuiltin EE h ts .min [.int .i64 a, .int .i64 b, .int .i64 c, .int .i64 d] = some v ∧ q v) ↔ _
  have : lBuiltin EE h ts .min [.int .i64 a, .int .i64 b, .int .i64 c, .int .i64 d] = some (.int .i64 (min (min (min a b) c) d : Nat)) := by
    simp only [lBuiltin, vmin, vminF, keq_refl, cond_true, ilt_dec, mkInt_eq]
    congr 2
    simp only [cond_eq_ite, decide_eq_true_eq]
    (repeat' split) <;> omega
  rw [this, ex_some]
theorem putS_loop (N : Nat) (Q : V → Hp → Prop) (l : List Stp) (hl : ∀ x ∈ l, x.ok) (hll : l.length ≤ 100) (v0 : V) (hv : In N v0) : ∀ (j i : Nat), l.length = i + j → ∀ (h h0 : Hp) (v : V) (out : List Nat), N ≤ h.n → RdS h v0 l → OwnB N h v out → out.length ≤ 100 + 3000 * i → Ext N h0 h →
    (∀ v' h', OwnB N h' v' (out ++ (l.drop i).flatMap putStp) → Ext N h0 h' → Q (.tup [v', .bool true]) h') → L_patch_put_1 Q v v0 (.int .i64 l.length) (.int .i64 i) h := by
  intro j
  induction j with
  | zero =>
    intro i hi h h0 v out hN hr o hlen x hq
    apply r_patch_put_1
    unfold t_patch_put_1
    have hf : ¬ ((i : Int) < (l.length : Int)) := by omega
    simp only [pu_lss, pu_cond_d]
    refine ⟨fun h1 => absurd h1 hf, fun _ => ?_⟩
    have := hq v h (by rw [List.drop_of_length_le (by omega)]; simpa using o) x
    exact this
  | succ j ih =>
    intro i hi h h0 v out hN hr o hlen x hq
    have hil : i < l.length := by omega
    obtain ⟨y, hy⟩ : ∃ y, l[i]? = some y := ⟨_, List.getElem?_eq_getElem hil⟩
    have oy := hl y (List.mem_of_getElem? hy)
    apply r_patch_put_1
    unfold t_patch_put_1
    simp only [pu_lss, pu_cond_d]
    refine ⟨fun _ => ?_, fun h1 => absurd (by omega) h1⟩
    obtain ⟨b, of, _, k1, k2, _⟩ := rd_at hr s_sl_api_Step l_api_Step (fun h => by cases h) (by omega) hil
    rw [k1, k2, elemAt, if_pos rfl, cellsS_at l i y hy, pu_alloc l_api_Step]
    have hg1 : (h.new (.cells [.int .i64 0, .str [], .int .i64 0, .int .i64 0, .int .i64 0, .str []] 28 false)).t.get h.n = some (.cells [.int .i64 0, .str [], .int .i64 0, .int .i64 0, .int .i64 0, .str []] 28 false) := by rw [Hp.get_new, if_pos rfl]
    rw [pu_store l_api_Step hg1 (x := .agg y.cells) rfl rfl (r := y.cells) rfl]
    obtain ⟨h1, hh1⟩ : ∃ h1, h1 = (h.new (.cells [.int .i64 0, .str [], .int .i64 0, .int .i64 0, .int .i64 0, .str []] 28 false)).set h.n (.cells y.cells 28 false) := ⟨_, rfl⟩
    have hg : h1.t.get h.n = some (.cells y.cells 28 false) := by rw [hh1, Hp.get_set, if_pos rfl]
    have hn1 : h1.n = h.n + 1 := by rw [hh1]; rfl
    have hx1 : Ext h.n h h1 := by rw [hh1]; exact (Ext.new (Nat.le_refl _) _).trans (Ext.set (Nat.le_refl _) _)
    rw [← hh1]
    clear hh1 hg1
    simp only [fa_api_Step_0, fa_api_Step_1, fa_api_Step_2, fa_api_Step_3, fa_api_Step_4, fa_api_Step_5, Nat.zero_add]
    rw [pu_load1 l_int hg (v := .int .i64 y.k) rfl, pu_load1 l_int hg (v := .int .i64 y.a) rfl, pu_load1 l_int hg (v := .int .i64 y.c) rfl, pu_load1 l_int hg (v := .int .i64 y.n) rfl]
    obtain ⟨m, hm⟩ := min4 y.k y.a y.c y.n
    rw [hm]
    simp only [pu_lss, pu_cond_d]
    refine ⟨fun h9 => by omega, fun _ => ?_⟩
    rw [pu_load1 l_int hg (v := .int .i64 y.k) rfl]
    have o1 : OwnB N h1 v out := o.keep hx1.n (fun c hc => hx1.old c (o.in_ c hc))
    have q0 := oy.k; have q1 := oy.s; have q2 := oy.s2; have q3 := oy.a; have q4 := oy.c; have q5 := oy.n; have q6 := oy.t; have q7 := oy.t2
    refine app_step (· = h.n) o1 (fun c hc => by subst hc; exact ⟨by omega, fun e => absurd (o.in_ _ e) (by omega)⟩) (by omega) (put_ok y.k h1 (by omega)) (by omega) fun v2 h2 o2 b2 x2 => ?_
    obtain ⟨g2, n2, d2⟩ := b2 _ rfl
    rw [pu_load1 l_string (g2.trans hg) (v := .str y.s) rfl, pu_call]
    refine app_step (· = h.n) o2 (fun c hc => by subst hc; exact ⟨n2, d2⟩) (by omega) (putText_ok y.s h2 q1 (by omega)) (by simp only [putT, List.length_append]; omega) fun v3 h3 o3 b3 x3 => ?_
    obtain ⟨g3, n3, d3⟩ := b3 _ rfl
    rw [pu_load1 l_int (g3.trans (g2.trans hg)) (v := .int .i64 y.a) rfl, pu_call]
    refine app_step (· = h.n) o3 (fun c hc => by subst hc; exact ⟨n3, d3⟩) (by omega) (put_ok y.a h3 (by omega)) (by simp only [putT, List.length_append]; omega) fun v4 h4 o4 b4 x4 => ?_
    obtain ⟨g4, n4, d4⟩ := b4 _ rfl
    rw [pu_load1 l_int (g4.trans (g3.trans (g2.trans hg))) (v := .int .i64 y.c) rfl, pu_call]
    refine app_step (· = h.n) o4 (fun c hc => by subst hc; exact ⟨n4, d4⟩) (by omega) (put_ok y.c h4 (by omega)) (by simp only [putT, List.length_append]; omega) fun v5 h5 o5 b5 x5 => ?_
    obtain ⟨g5, n5, d5⟩ := b5 _ rfl
    rw [pu_load1 l_int (g5.trans (g4.trans (g3.trans (g2.trans hg)))) (v := .int .i64 y.n) rfl, pu_call]
    refine app_step (· = h.n) o5 (fun c hc => by subst hc; exact ⟨n5, d5⟩) (by omega) (put_ok y.n h5 (by omega)) (by simp only [putT, List.length_append]; omega) fun v6 h6 o6 b6 x6 => ?_
    obtain ⟨g6, n6, d6⟩ := b6 _ rfl
    rw [pu_load1 l_string (g6.trans (g5.trans (g4.trans (g3.trans (g2.trans hg))))) (v := .str y.t) rfl, pu_call]
    refine app_step (· = h.n) o6 (fun c hc => by subst hc; exact ⟨n6, d6⟩) (by omega) (putText_ok y.t h6 q6 (by omega)) (by simp only [putT, List.length_append]; omega) fun v7 h7 o7 b7 x7 => ?_
    have hxx : Ext N h h7 := ((((((hx1.mono hN).trans x2).trans x3).trans x4).trans x5).trans x6).trans x7
    rw [pu_add, show IntKind.i64.wrap ((i : Int) + 1) = ((i + 1 : Nat) : Int) from Go.IntWalk.i64_in _ (by omega)]
    have hps : putStp y = putL y.k ++ putT y.s ++ putL y.a ++ putL y.c ++ putL y.n ++ putT y.t := rfl
    refine ih (i + 1) (by omega) h7 h0 v7 (out ++ putStp y) (Nat.le_trans hN hxx.n) (hr.ext hxx hv) ?_ ?_ (x.trans hxx) fun v' h' o' x' => hq v' h' ?_ x'
    · rw [hps]
      simpa only [List.append_assoc] using o7
    · rw [List.length_append]; have := oy.len; omega
    · rw [List.drop_eq_getElem_cons hil, List.flatMap_cons, ← List.append_assoc]
      have : l[i] = y := by rw [List.getElem?_eq_getElem hil] at hy; exact Option.some.inj hy
      rw [this]; exact o'
def putSt (l : List Stp) : List Nat := putL l.length ++ l.flatMap putStp
theorem flat_len (l : List Stp) (hl : ∀ x ∈ l, x.ok) : (l.flatMap putStp).length ≤ 3000 * l.length := by
  induction l with
  | nil => simp
  | cons x l ih =>
    have := (hl x (by simp)).len
    have := ih fun y hy => hl y (by simp [hy])
    simp only [List.flatMap_cons, List.length_append, List.length_cons]; omega
theorem putS_ok (l : List Stp) (hl : ∀ x ∈ l, x.ok) (hll : l.length ≤ 100) (hp : (putL l.length).length ≤ 100) (v0 : V) (h : Hp) (hv : In h.n v0) (r : RdS h v0 l) :
    Ans EE 18 [v0] h fun v h' => ∃ u, v = .tup [u, .bool true] ∧ OwnB h.n h' u (putSt l) ∧ Ext h.n h h' := by
  apply a_patch_put
  unfold t_patch_put_0
  rw [pu_len r s_sl_api_Step, pu_call]
  refine (put_ok l.length h (by omega)).mono fun v h1 ⟨o, x⟩ => ?_
  have r1 := r.ext x hv
  rw [pu_len r1 s_sl_api_Step]
  refine putS_loop h.n _ l hl hll v0 hv l.length 0 (by simp) h1 h v (putL l.length) x.n r1 o (by omega) x fun v' h' o' x' => ⟨v', rfl, ?_, x'⟩
  simpa [putSt] using o'
/-- a patch -/
structure Pat where
  a : List Stp
  b : List Stp
  c : List Stp
structure Pat.ok (p : Pat) : Prop where
  a : (∀ x ∈ p.a, x.ok) ∧ p.a.length ≤ 100 ∧ (putL p.a.length).length ≤ 100
  b : (∀ x ∈ p.b, x.ok) ∧ p.b.length ≤ 100 ∧ (putL p.b.length).length ≤ 100
  c : (∀ x ∈ p.c, x.ok) ∧ p.c.length ≤ 100 ∧ (putL p.c.length).length ≤ 100
structure RdP (N : Nat) (h : Hp) (v : V) (p : Pat) : Prop where
  out : ∃ x y z, v = .agg [x, y, z] ∧ RdS h x p.a ∧ RdS h y p.b ∧ RdS h z p.c ∧ In N x ∧ In N y ∧ In N z
theorem RdP.ext {N M : Nat} {h h' : Hp} {v : V} {p : Pat} (r : RdP N h v p) (x : Ext M h h') (hm : N ≤ M) : RdP N h' v p := by
  obtain ⟨a, b, c, h1, h2, h3, h4, h5, h6, h7⟩ := r.out
  exact ⟨a, b, c, h1, h2.ext x (h5.mono hm), h3.ext x (h6.mono hm), h4.ext x (h7.mono hm), h5, h6, h7⟩
def putP (p : Pat) : List Nat := putSt p.a ++ putSt p.b ++ putSt p.c
theorem Put_ok (p : Pat) (hp : p.ok) (v : V) (h : Hp) (r : RdP h.n h v p) : Ans EE 9 [v] h fun u h' => OwnB h.n h' u (putP p) ∧ Ext h.n h h' := by
  obtain ⟨x, y, z, rfl, rx, ry, rz, ix, iy, iz⟩ := r.out
  apply a_patch_Put
  unfold t_patch_Put_0
  have hcc : allCells [x, y, z] = true := by simp only [allCells, rx.c1.2, ry.c1.2, rz.c1.2, cond_true]
  refine pu_boxX hcc fun h1 b1 w1 => ?_
  have x1 := w1.ext (Nat.le_refl _)
  simp only [fa_api_Patch_0, fa_api_Patch_1, fa_api_Patch_2, Nat.zero_add]
  rw [pu_load1 l_sl_api_Step w1.at_ (v := x) rfl, pu_load1 l_sl_api_Step w1.at_ (v := y) rfl, pu_load1 l_sl_api_Step w1.at_ (v := z) rfl]
  refine pu_bslX s_sl_sl_api_Step l_sl_api_Step _ (by simp [rx.c1, ry.c1, rz.c1]) rfl (by omega) fun h2 b2 w2 => ?_
  have x2 := w2.ext (N := h.n) (by rw [w1.n]; omega)
  have hL : Rd h2 1 (.sl b2 0 3 3) 3 [x, y, z] := ⟨rfl, .inr ⟨b2, 0, [x, y, z], rdCells_of w2.at_, rfl, .inl ⟨_, rfl⟩⟩⟩
  rw [pu_len hL s_sl_sl_api_Step]
  have hb2 : h.n ≤ b2 ∧ b2 < h2.n := by rw [w2.b, w2.n, w1.n]; omega
  have h0n : h.n ≤ h2.n := by rw [w2.n, w1.n]; omega
  -- one turn of the loop
  have turn : ∀ (i : Nat) (u : V) (l : List Stp) (h3 : Hp) (v : V) (out : List Nat), i < 3 → [x, y, z][i]? = some u → RdS h u l → In h.n u → (∀ x ∈ l, x.ok) → l.length ≤ 100 → (putL l.length).length ≤ 100 → Ext h2.n h2 h3 → OwnB h2.n h3 v out → out.length ≤ 310000 * i →
      (∀ v' h', Ext h2.n h2 h' → OwnB h2.n h' v' (out ++ putSt l) → L_patch_Put_1 (fun u h' => OwnB h.n h' u (putP p) ∧ Ext h.n h h') v' (.sl b2 0 3 3) (.int .i64 3) (.int .i64 (i + 1 : Nat)) h') →
      L_patch_Put_1 (fun u h' => OwnB h.n h' u (putP p) ∧ Ext h.n h h') v (.sl b2 0 3 3) (.int .i64 3) (.int .i64 i) h3 := by
    intro i u l h3 v out hi hu ru iu ol ol2 ol3 x3 o3 hlen hq
    apply r_patch_Put_1
    unfold t_patch_Put_1
    simp only [pu_lss, pu_cond_d]
    refine ⟨fun _ => ?_, fun h9 => absurd (by omega) h9⟩
    have hL3 : Rd h3 1 (.sl b2 0 3 3) 3 [x, y, z] := hL.ext x3 (fun c hc => by cases hc; exact hb2.2)
    obtain ⟨c, of, _, k1, k2, _⟩ := rd_at hL3 s_sl_sl_api_Step l_sl_api_Step (fun _ => rfl) (by omega) hi
    rw [k1, k2, elemAt]
    simp only [Bool.false_eq_true, if_false, hu, Option.getD_some]
    rw [pu_call]
    have xx : Ext h.n h h3 := (x1.trans x2).trans (x3.mono h0n)
    refine (putS_ok l ol ol2 ol3 u h3 (iu.mono xx.n) (ru.ext xx iu)).mono fun r h4 ⟨r2, hr2, o4, x4⟩ => ?_
    subst hr2
    rw [pu_extr0, pu_extr1, pu_not]
    simp only [Bool.not_true, pu_cond_f]
    have hfl : (putSt l).length ≤ 300100 := by have := flat_len l ol; simp only [putSt, List.length_append]; omega
    refine app_raw (fun _ => False) (o3.keep x4.n fun c hc => x4.old c (o3.in_ c hc)) (fun _ h => h.elim) (Nat.le_trans x3.n x4.n) o4.rd (by omega) fun v5 h5 o5 _ x5 => ?_
    rw [pu_add, show IntKind.i64.wrap ((i : Int) + 1) = ((i + 1 : Nat) : Int) from Go.IntWalk.i64_in _ (by omega)]
    exact hq v5 h5 (x3.trans ((x4.mono x3.n).trans x5)) o5
  have g0 : ∀ l : List Stp, (∀ x ∈ l, x.ok) → l.length ≤ 100 → (putL l.length).length ≤ 100 → (putSt l).length ≤ 300100 := fun l h1 h2 h3 => by
    have := flat_len l h1; simp only [putSt, List.length_append]; omega
  have e1 := g0 _ hp.a.1 hp.a.2.1 hp.a.2.2
  have e2 := g0 _ hp.b.1 hp.b.2.1 hp.b.2.2
  refine turn 0 x p.a h2 .nils [] (by omega) rfl rx ix hp.a.1 hp.a.2.1 hp.a.2.2 (Ext.refl _ _) (Own.nil _ _ _ _) (by simp) fun v1 h3 x3 o3 => ?_
  refine turn 1 y p.b h3 v1 _ (by omega) rfl ry iy hp.b.1 hp.b.2.1 hp.b.2.2 x3 o3 (by simp; omega) fun v2 h4 x4 o4 => ?_
  refine turn 2 z p.c h4 v2 _ (by omega) rfl rz iz hp.c.1 hp.c.2.1 hp.c.2.2 x4 o4 (by simp; omega) fun v3 h5 x5 o5 => ?_
  apply r_patch_Put_1
  unfold t_patch_Put_1
  simp only [pu_lss, pu_cond_d]
  refine ⟨fun h9 => absurd h9 (by omega), fun _ => ⟨?_, (x1.trans x2).trans (x5.mono h0n)⟩⟩
  have := o5.mono h0n
  have e : [] ++ putSt p.a ++ putSt p.b ++ putSt p.c = putP p := by simp [putP]
  rw [← e]; exact this
end
end Go.Proofs.YtpimnaojhaeiiaaGreatDoor.VM
namespace Go.Proofs.YtpimnaojhaeiiaaGreatDoor.VM
open Go
set_option linter.unusedVariables false
noncomputable section
theorem stp_neq (x y : Stp) (q : V → Prop) : (Pu EE).bin .neq 28 false false (.agg x.cells) (.agg y.cells) q ↔ q (.bool (!decide (x = y))) := by
  have h1 : vbinB EE .neq 28 false false (.agg x.cells) (.agg y.cells) = eqOp .neq (leq [.int .i64, .str, .int .i64, .int .i64, .int .i64, .str] x.cells y.cells) := by kernel_rfl
  have h2 : leq [.int .i64, .str, .int .i64, .int .i64, .int .i64, .str] x.cells y.cells = some (decide (x = y)) := by
    obtain ⟨a1, a2, a3, a4, a5, a6⟩ := x
    obtain ⟨b1, b2, b3, b4, b5, b6⟩ := y
    simp only [Stp.cells, leq, ceq, keq_refl, cond_true, ieq_dec, seq_dec, Option.bind_some, Stp.mk.injEq, Int.natCast_inj]
    by_cases h1 : a1 = b1
    · by_cases h2 : a2 = b2
      · by_cases h3 : a3 = b3
        · by_cases h4 : a4 = b4
          · by_cases h5 : a5 = b5
            · by_cases h6 : a6 = b6 <;> simp [h1, h2, h3, h4, h5, h6]
            · simp [h1, h2, h3, h4, h5]
          · simp [h1, h2, h3, h4]
        · simp [h1, h2, h3]
      · simp [h1, h2]
    · simp [h1]
  show (∃ v, vbinB EE .neq 28 false false (.agg x.cells) (.agg y.cells) = some v ∧ q v) ↔ _
  rw [h1, h2]
  simp only [eqOp, Option.bind_some, ex_some]
theorem same_loop (Q : V → Hp → Prop) (h : Hp) (l m : List Stp) (v0 v1 : V) (r0 : RdS h v0 l) (r1 : RdS h v1 m) (he : l.length = m.length) (hll : l.length ≤ 1000000) (hq : Q (.bool (decide (l = m))) h) : ∀ (j i : Nat), l.length = i + j → l.take i = m.take i → L_r15_SameSteps_1 Q v0 v1 (.int .i64 i) h := by
  intro j
  induction j with
  | zero =>
    intro i hi ht
    apply r_r15_SameSteps_1
    unfold t_r15_SameSteps_1
    rw [pu_len r0 s_sl_api_Step]
    simp only [pu_lss, pu_cond_d]
    refine ⟨fun h9 => absurd h9 (by omega), fun _ => ?_⟩
    rw [List.take_of_length_le (by omega), List.take_of_length_le (by omega)] at ht
    simpa [ht] using hq
  | succ j ih =>
    intro i hi ht
    have hil : i < l.length := by omega
    have him : i < m.length := by omega
    obtain ⟨x, hx⟩ : ∃ x, l[i]? = some x := ⟨_, List.getElem?_eq_getElem hil⟩
    obtain ⟨y, hy⟩ : ∃ y, m[i]? = some y := ⟨_, List.getElem?_eq_getElem him⟩
    apply r_r15_SameSteps_1
    unfold t_r15_SameSteps_1
    rw [pu_len r0 s_sl_api_Step]
    simp only [pu_lss, pu_cond_d]
    refine ⟨fun _ => ?_, fun h9 => absurd (by omega) h9⟩
    obtain ⟨_, _, _, k1, k2, _⟩ := rd_at r0 s_sl_api_Step l_api_Step (fun h => by cases h) (by omega) hil
    obtain ⟨_, _, _, k3, k4, _⟩ := rd_at r1 s_sl_api_Step l_api_Step (fun h => by cases h) (by omega) him
    rw [k1, k2, k3, k4, elemAt, elemAt, if_pos rfl, if_pos rfl, cellsS_at l i x hx, cellsS_at m i y hy, stp_neq]
    simp only [pu_cond_n]
    refine ⟨fun hne => ?_, fun heq => ?_⟩
    · have : ¬ l = m := fun e => by subst e; rw [hx] at hy; exact hne (Option.some.inj hy)
      simpa [this] using hq
    · rw [pu_add, show IntKind.i64.wrap ((i : Int) + 1) = ((i + 1 : Nat) : Int) from Go.IntWalk.i64_in _ (by omega)]
      refine ih (i + 1) (by omega) ?_
      rw [List.take_add_one, List.take_add_one, ht, hx, hy, heq]
theorem same_ok (l m : List Stp) (v0 v1 : V) (h : Hp) (r0 : RdS h v0 l) (r1 : RdS h v1 m) (hl : l.length ≤ 1000000) (hm : m.length ≤ 1000000) : Ans EE 11 [v0, v1] h fun v h' => v = .bool (decide (l = m)) ∧ h' = h := by
  apply a_r15_SameSteps
  unfold t_r15_SameSteps_0
  rw [pu_len r0 s_sl_api_Step, pu_len r1 s_sl_api_Step, pu_neq]
  simp only [pu_cond_n]
  refine ⟨fun hne => ⟨?_, trivial⟩, fun heq => ?_⟩
  · have : ¬ l = m := fun e => hne (by rw [e])
    simp [this]
  · exact same_loop _ h l m v0 v1 r0 r1 (by omega) hl ⟨rfl, rfl⟩ l.length 0 (by simp) rfl
theorem samePatch_ok (p q : Pat) (v0 v1 : V) (h : Hp) (r0 : RdP h.n h v0 p) (r1 : RdP h.n h v1 q) (hp : p.a.length ≤ 100000 ∧ p.b.length ≤ 100000 ∧ p.c.length ≤ 100000) (hq : q.a.length ≤ 100000 ∧ q.b.length ≤ 100000 ∧ q.c.length ≤ 100000) :
    Ans EE 10 [v0, v1] h fun v h' => v = .bool (decide (p.a = q.a ∧ p.b = q.b ∧ p.c = q.c)) ∧ Ext h.n h h' := by
  obtain ⟨x, y, z, rfl, rx, ry, rz, ix, iy, iz⟩ := r0.out
  obtain ⟨x', y', z', rfl, rx', ry', rz', ix', iy', iz'⟩ := r1.out
  apply a_r15_SamePatch
  unfold t_r15_SamePatch_0
  refine pu_boxX (by simp only [allCells, rx.c1.2, ry.c1.2, rz.c1.2, cond_true]) fun h1 b1 w1 => ?_
  refine pu_boxX (by simp only [allCells, rx'.c1.2, ry'.c1.2, rz'.c1.2, cond_true]) fun h2 b2 w2 => ?_
  have xx : Ext h.n h h2 := (w1.ext (Nat.le_refl _)).trans (w2.ext (by rw [w1.n]; omega))
  have hg1 : h2.t.get b1 = some (.cells [x, y, z] 26 false) := by rw [w2.old b1 (by rw [w1.n, w1.b]; omega)]; exact w1.at_
  have hg2 := w2.at_
  simp only [fa_api_Patch_0, fa_api_Patch_1, fa_api_Patch_2, Nat.zero_add]
  rw [pu_load1 l_sl_api_Step hg1 (v := x) rfl, pu_load1 l_sl_api_Step hg2 (v := x') rfl, pu_call]
  refine (same_ok p.a q.a x x' h2 (rx.ext xx ix) (rx'.ext xx ix') (by omega) (by omega)).mono fun v h3 ⟨e1, e2⟩ => ?_
  subst e1
  rw [e2]
  by_cases ha : p.a = q.a
  · simp only [ha, decide_true, pu_gval_y]
    rw [pu_load1 l_sl_api_Step hg1 (v := y) rfl]
    rw [pu_load1 l_sl_api_Step hg2 (v := y') rfl, pu_geff_y, pu_call]
    refine (same_ok p.b q.b y y' h2 (ry.ext xx iy) (ry'.ext xx iy') (by omega) (by omega)).mono fun v h3 ⟨e1, e2⟩ => ?_
    subst e1
    rw [e2, pu_pick_t]
    by_cases hb : p.b = q.b
    · simp only [hb, decide_true, pu_gval_y]
      rw [pu_load1 l_sl_api_Step hg1 (v := z) rfl]
      rw [pu_load1 l_sl_api_Step hg2 (v := z') rfl, pu_geff_y, pu_call]
      refine (same_ok p.c q.c z z' h2 (rz.ext xx iz) (rz'.ext xx iz') (by omega) (by omega)).mono fun v h3 ⟨e1, e2⟩ => ?_
      subst e1
      rw [e2, pu_pick_t]
      exact ⟨by simp, xx⟩
    · simp only [hb, decide_false, pu_gval_ft, pu_geff_ft, pu_pick_f]
      exact ⟨by simp, xx⟩
  · simp only [ha, decide_false, pu_gval_ft, pu_geff_ft, pu_pick_f]
    exact ⟨by simp, xx⟩
end
end Go.Proofs.YtpimnaojhaeiiaaGreatDoor.VM
namespace Go.Proofs.YtpimnaojhaeiiaaGreatDoor.VM
/-- the number that a list of bytes begins with, and how many bytes tell it; i bytes have been read, their bits are in 'acc' -/
def getF : Nat → Nat → Nat → List Nat → Option (Nat × Nat)
  | 0, _, _, _ => none
  | _ + 1, _, _, [] => none
  | f + 1, i, acc, c :: r => if 128 ≤ c then getF f (i + 1) (acc + (c % 128) * 2 ^ (7 * i)) r else if c = 0 ∧ 0 < i then none else some (acc + c * 2 ^ (7 * i), i + 1)
def getL (l : List Nat) : Option (Nat × Nat) := getF 9 0 0 l
theorem putL_pos (n : Nat) : 0 < (putL n).length := by
  by_cases h : n < 128
  · rw [putL_small h]; simp
  · rw [putL_big h]; simp
theorem getF_nil (f i acc : Nat) : getF f i acc [] = none := by cases f <;> rfl
theorem getF_zero (i acc : Nat) (l : List Nat) : getF 0 i acc l = none := rfl
theorem getF_more {f i acc : Nat} {c : Nat} {r : List Nat} (h : 128 ≤ c) : getF (f + 1) i acc (c :: r) = getF f (i + 1) (acc + (c % 128) * 2 ^ (7 * i)) r := by
  show (if 128 ≤ c then _ else _) = _
  rw [if_pos h]
theorem getF_zero_end {f i acc : Nat} {c : Nat} {r : List Nat} (h : c = 0) (hi : 0 < i) : getF (f + 1) i acc (c :: r) = none := by
  show (if 128 ≤ c then _ else if c = 0 ∧ 0 < i then none else _) = _
  rw [if_neg (by omega), if_pos ⟨h, hi⟩]
theorem getF_end {f i acc : Nat} {c : Nat} {r : List Nat} (h : c < 128) (hi : ¬ (c = 0 ∧ 0 < i)) : getF (f + 1) i acc (c :: r) = some (acc + c * 2 ^ (7 * i), i + 1) := by
  show (if 128 ≤ c then _ else if c = 0 ∧ 0 < i then none else _) = _
  rw [if_neg (by omega), if_neg hi]

theorem pow7 (i : Nat) : 2 ^ (7 * (i + 1)) = 128 * 2 ^ (7 * i) := by
  rw [Nat.mul_add, Nat.pow_add]; omega
theorem acc_lt {x i : Nat} {c : Nat} (hx : x < 2 ^ (7 * i)) : x + (c % 128) * 2 ^ (7 * i) < 2 ^ (7 * (i + 1)) := by
  rw [pow7]
  have h : c % 128 ≤ 127 := by omega
  have := Nat.mul_le_mul_right (2 ^ (7 * i)) h
  omega

theorem div_pow {n f : Nat} (h : n < 128 ^ (f + 2)) : n / 128 < 128 ^ (f + 1) := by
  rw [Nat.pow_succ] at h
  exact Nat.div_lt_of_lt_mul (by omega)
theorem val_step (n i acc : Nat) : acc + ((n % 128 + 128) % 128) * 2 ^ (7 * i) + n / 128 * 2 ^ (7 * (i + 1)) = acc + n * 2 ^ (7 * i) := by
  rw [pow7]
  have h1 : (n % 128 + 128) % 128 = n % 128 := by omega
  have h2 : n * 2 ^ (7 * i) = (n % 128 + 128 * (n / 128)) * 2 ^ (7 * i) := by rw [Nat.mod_add_div]
  rw [h1, h2, Nat.add_mul, Nat.add_assoc, ← Nat.mul_assoc, Nat.mul_comm (n / 128) 128]

/-- What was told is read, whatever stands behind. -/
theorem getF_putL : ∀ (f i acc n : Nat) (r : List Nat), n < 128 ^ (f + 1) → (0 < i → 0 < n) → getF (f + 1) i acc (putL n ++ r) = some (acc + n * 2 ^ (7 * i), i + (putL n).length) := by
  intro f
  induction f with
  | zero =>
    intro i acc n r h hi
    have hs : n < 128 := by simpa using h
    rw [putL_small hs, List.singleton_append, getF_end (by exact hs) (by rintro ⟨h1, h2⟩; have := hi h2; omega)]
    rfl
  | succ f ih =>
    intro i acc n r h hi
    by_cases hs : n < 128
    · rw [putL_small hs, List.singleton_append, getF_end (by exact hs) (by rintro ⟨h1, h2⟩; have := hi h2; omega)]
      rfl
    · rw [putL_big hs, List.cons_append, getF_more (by omega), ih _ _ _ _ (div_pow h) (fun _ => by omega), val_step, List.length_cons]
      congr 2
      omega
/-- Cut by its last byte it is not read. -/
theorem getF_cut : ∀ (f i acc n : Nat), n < 128 ^ (f + 1) → getF (f + 1) i acc (putL n).dropLast = none := by
  intro f
  induction f with
  | zero =>
    intro i acc n h
    have hs : n < 128 := by simpa using h
    rw [putL_small hs]; exact getF_nil _ _ _
  | succ f ih =>
    intro i acc n h
    by_cases hs : n < 128
    · rw [putL_small hs]; exact getF_nil _ _ _
    · rw [putL_big hs]
      have hp := putL_pos (n / 128)
      have e : ((n % 128 + 128) :: putL (n / 128)).dropLast = (n % 128 + 128) :: (putL (n / 128)).dropLast := by
        cases h' : putL (n / 128) with
        | nil => rw [h'] at hp; simp at hp
        | cons x l => rfl
      rw [e, getF_more (by omega)]
      exact ih _ _ _ (div_pow h)
theorem getL_putL {n : Nat} (h : n < 9223372036854775808) (r : List Nat) : getL (putL n ++ r) = some (n, (putL n).length) := by
  have := getF_putL 8 0 0 n r (by have : (128 : Nat) ^ (8 + 1) = 9223372036854775808 := by decide
                                  omega) (fun h => absurd h (by omega))
  rw [getL, this]
  simp
theorem getL_cut {n : Nat} (h : n < 9223372036854775808) : getL (putL n).dropLast = none :=
  getF_cut 8 0 0 n (by have : (128 : Nat) ^ (8 + 1) = 9223372036854775808 := by decide
                       omega)
theorem getL_nil : getL [] = none := rfl


theorem getF_mono : ∀ (f i acc : Nat) (l r : List Nat) (p : Nat × Nat), getF f i acc l = some p → getF f i acc (l ++ r) = some p := by
  intro f
  induction f with
  | zero => intro i acc l r p h; cases h
  | succ f ih =>
    intro i acc l r p h
    cases l with
    | nil => rw [getF_nil] at h; cases h
    | cons c l =>
      rw [List.cons_append]
      by_cases h1 : 128 ≤ c
      · rw [getF_more h1] at h ⊢; exact ih _ _ _ _ _ h
      · by_cases h2 : c = 0 ∧ 0 < i
        · rw [getF_zero_end h2.1 h2.2] at h; cases h
        · rw [getF_end (by omega) h2] at h ⊢; exact h
theorem getF_len : ∀ (f i acc : Nat) (l : List Nat) (x m : Nat), getF f i acc l = some (x, m) → i < m ∧ m ≤ i + l.length ∧ (acc < 2 ^ (7 * i) → i + f ≤ 9 → x < 9223372036854775808) := by
  intro f
  induction f with
  | zero => intro i acc l x m h; cases h
  | succ f ih =>
    intro i acc l x m h
    cases l with
    | nil => rw [getF_nil] at h; cases h
    | cons c l =>
      by_cases h1 : 128 ≤ c
      · rw [getF_more h1] at h
        obtain ⟨a1, a2, a3⟩ := ih _ _ _ _ _ h
        exact ⟨by omega, by simp; omega, fun h3 h4 => a3 (acc_lt h3) (by omega)⟩
      · by_cases h2 : c = 0 ∧ 0 < i
        · rw [getF_zero_end h2.1 h2.2] at h; cases h
        · rw [getF_end (by omega) h2] at h
          injection h with h
          injection h with ha hb
          refine ⟨by omega, by simp; omega, fun h3 h4 => ?_⟩
          have h5 : acc + c * 2 ^ (7 * i) < 2 ^ (7 * (i + 1)) := by
            have := acc_lt (c := c) h3
            rwa [Nat.mod_eq_of_lt (by omega)] at this
          have h6 : 2 ^ (7 * (i + 1)) ≤ 2 ^ 63 := Nat.pow_le_pow_right (by omega) (by omega)
          omega
theorem getL_mono {l : List Nat} {p : Nat × Nat} (h : getL l = some p) (r : List Nat) : getL (l ++ r) = some p := getF_mono _ _ _ _ _ _ h
theorem getL_len {l : List Nat} {n m : Nat} (h : getL l = some (n, m)) : 0 < m ∧ m ≤ l.length ∧ n < 9223372036854775808 := by
  obtain ⟨a1, a2, a3⟩ := getF_len _ _ _ _ _ _ h
  exact ⟨a1, by omega, a3 (by simp) (by omega)⟩
end Go.Proofs.YtpimnaojhaeiiaaGreatDoor.VM
namespace Go.Proofs.YtpimnaojhaeiiaaGreatDoor.VM
open Go
set_option linter.unusedVariables false
noncomputable section
theorem ofInt_i64 (a : Nat) (ha : a < 9223372036854775808) : (BitVec.ofInt 64 (a : Int)).toNat = a := by
  rw [BitVec.ofInt_natCast, BitVec.toNat_ofNat]; exact Nat.mod_eq_of_lt (by omega)
theorem w64 (n : Nat) (h : n < 9223372036854775808) : IntKind.i64.wrap (n : Int) = (n : Int) := Go.IntWalk.i64_in _ (by omega)
theorem pu_or64 (t : Nat) (cx cy : Bool) (a b : Nat) (ha : a < 9223372036854775808) (hb : b < 9223372036854775808) (q : V → Prop) : (Pu EE).bin .or t cx cy (.int .i64 a) (.int .i64 b) q ↔ q (.int .i64 ((a ||| b : Nat) : Int)) := by
  rw [pu_bin]
  have hx : a ||| b < 2 ^ 63 := Nat.or_lt_two_pow (by omega) (by omega)
  have : vbin .or (.int .i64 (a : Int)) (.int .i64 (b : Int)) = some (.int .i64 ((a ||| b : Nat) : Int)) := by
    show some (bitop .i64 (· ||| ·) _ _) = _
    unfold bitop
    rw [mkInt_eq]
    show some (V.int .i64 (IntKind.i64.wrap (((BitVec.ofInt 64 (a : Int) ||| BitVec.ofInt 64 (b : Int)).toNat : Nat) : Int))) = _
    rw [BitVec.toNat_or, ofInt_i64 a ha, ofInt_i64 b hb, w64 _ (by omega)]
  rw [this, ex_some]
theorem and127 : ∀ n : Nat, n < 256 → ((BitVec.ofInt 8 (n : Int)) &&& (BitVec.ofInt 8 127)).toNat = n % 128 := by decide +kernel
theorem pu_and127 (t : Nat) (cx cy : Bool) (n : Nat) (hn : n < 256) (q : V → Prop) : (Pu EE).bin .and t cx cy (.int .u8 n) (.int .u8 127) q ↔ q (.int .u8 ((n % 128 : Nat) : Int)) := by
  rw [pu_bin]
  have : vbin .and (.int .u8 (n : Int)) (.int .u8 127) = some (.int .u8 ((n % 128 : Nat) : Int)) := by
    show some (bitop .u8 (· &&& ·) _ _) = _
    unfold bitop
    rw [mkInt_eq]
    show some (V.int .u8 (IntKind.u8.wrap (((BitVec.ofInt 8 (n : Int) &&& BitVec.ofInt 8 127).toNat : Nat) : Int))) = _
    rw [and127 n hn, wrap_u8]
    congr 2
    omega
  rw [this, ex_some]
theorem or_add {x y j : Nat} (hx : x < 2 ^ (7 * j)) : x ||| y * 2 ^ (7 * j) = x + y * 2 ^ (7 * j) := by
  rw [Nat.or_comm, Nat.mul_comm y, ← Nat.two_pow_add_eq_or_of_lt hx, Nat.add_comm]
theorem shl_val {u j : Nat} (hj : j < 9) : (u % 128) * 2 ^ (7 * j) < 9223372036854775808 := by
  have h1 : u % 128 < 128 := Nat.mod_lt _ (by omega)
  have h2 : 2 ^ (7 * j) ≤ 2 ^ 56 := Nat.pow_le_pow_right (by omega) (by omega)
  have : (u % 128) * 2 ^ (7 * j) ≤ 127 * 2 ^ 56 := Nat.mul_le_mul (by omega) h2
  omega
theorem x_small {x j : Nat} (hj : j < 9) (hx : x < 2 ^ (7 * j)) : x < 9223372036854775808 := by
  have h2 : 2 ^ (7 * j) ≤ 2 ^ 56 := Nat.pow_le_pow_right (by omega) (by omega)
  omega
abbrev RdB (h : Hp) (v : V) (l : List Nat) : Prop := Rd h 1 v l.length (l.map vB)
def encG (at_ : Nat) : Option (Nat × Nat) → V
  | some (n, m) => .tup [.int .i64 n, .int .i64 (at_ + m : Nat), .bool true]
  | none => .tup [.int .i64 0, .int .i64 0, .bool false]
theorem get_loop (Q : V → Hp → Prop) (h : Hp) (b : List Nat) (hb : ∀ x ∈ b, x < 256) (v0 : V) (r : RdB h v0 b) (hlen : b.length ≤ 1000000) (k : Nat) (hk : k ≤ b.length) (hq : Q (encG k (getL (b.drop k))) h) :
    ∀ (f i acc : Nat), f + i = 9 → k + i ≤ b.length → acc < 2 ^ (7 * i) → getL (b.drop k) = getF f i acc (b.drop (k + i)) → L_code_Get_1 Q v0 (.int .i64 k) (.int .i64 acc) (.int .i64 i) h := by
  intro f
  induction f with
  | zero =>
    intro i acc hi hki ha he
    rw [he, getF_zero] at hq
    apply r_code_Get_1
    unfold t_code_Get_1
    simp only [pu_lss, pu_cond_d]
    exact ⟨fun h9 => absurd h9 (by omega), fun _ => hq⟩
  | succ f ih =>
    intro i acc hi hki ha he
    apply r_code_Get_1
    unfold t_code_Get_1
    simp only [pu_lss, pu_cond_d]
    refine ⟨fun _ => ?_, fun h9 => absurd (by omega) h9⟩
    rw [pu_len r s_sl_uint8, pu_sub, show IntKind.i64.wrap ((b.length : Int) - (i : Int)) = ((b.length - i : Nat) : Int) by rw [show (b.length : Int) - (i : Int) = ((b.length - i : Nat) : Int) by omega]; exact w64 _ (by omega)]
    simp only [pu_geq, pu_cond_d]
    refine ⟨fun h1 => ?_, fun h1 => ?_⟩
    · rw [he, List.drop_of_length_le (by omega), getF_nil] at hq
      exact hq
    · have hlt : k + i < b.length := by omega
      obtain ⟨c, hc⟩ : ∃ c, b[k + i]? = some c := ⟨_, List.getElem?_eq_getElem hlt⟩
      have hc256 := hb c (List.mem_of_getElem? hc)
      have hd : b.drop (k + i) = c :: b.drop (k + i + 1) := by
        rw [List.drop_eq_getElem_cons hlt]
        congr 1
        rw [List.getElem?_eq_getElem hlt] at hc
        exact Option.some.inj hc
      rw [pu_add, show IntKind.i64.wrap ((k : Int) + (i : Int)) = ((k + i : Nat) : Int) by rw [← Int.natCast_add]; exact w64 _ (by omega)]
      obtain ⟨_, _, _, k1, k2, _⟩ := rd_at r s_sl_uint8 l_uint8 (fun _ => rfl) (by omega) hlt
      have hel : elemAt false 1 (b.map vB) (k + i) = .int .u8 c := by
        simp only [elemAt, Bool.false_eq_true, if_false, List.getElem?_map, hc, Option.map_some, Option.getD_some, vB]
      rw [k1, k2, hel, pu_and127 _ _ _ _ hc256, pu_conv i_uint8 i_int, w64 _ (by omega), pu_mul, show IntKind.i64.wrap (7 * (i : Int)) = ((7 * i : Nat) : Int) by rw [show 7 * (i : Int) = ((7 * i : Nat) : Int) by omega]; exact w64 _ (by omega), pu_shl]
      have hmin : min (7 * i) (IntKind.bits .i64) = 7 * i := Nat.min_eq_left (by simp [IntKind.bits]; omega)
      have e2 : ((c % 128 : Nat) : Int) * 2 ^ (7 * i) = (((c % 128) * 2 ^ (7 * i) : Nat) : Int) := by simp
      rw [hmin, e2, w64 _ (shl_val (by omega)), pu_or64 _ _ _ _ _ (x_small (by omega) ha) (shl_val (by omega)), or_add ha]
      simp only [pu_gtr, pu_cond_d]
      refine ⟨fun h2 => ?_, fun h2 => ?_⟩
      · rw [pu_add, show IntKind.i64.wrap ((i : Int) + 1) = ((i + 1 : Nat) : Int) from Go.IntWalk.i64_in _ (by omega)]
        refine ih (i + 1) _ (by omega) (by omega) (acc_lt ha) ?_
        rw [he, hd, getF_more (by omega)]
        rfl
      · rw [pu_eql]
        have hc128 : c < 128 := by omega
        by_cases hc0 : c = 0
        · subst hc0
          rw [decide_eq_true (by rfl : ((0 : Nat) : Int) = 0)]
          simp only [pu_gval_y, pu_gtr, pu_pick_t, pu_cond_d]
          refine ⟨fun h3 => ?_, fun h3 => ?_⟩
          · rw [he, hd, getF_zero_end rfl (by omega)] at hq
            exact hq
          · have hi0 : i = 0 := by omega
            subst hi0
            rw [he, hd, getF_end (by omega) (by omega)] at hq
            rw [pu_add, ← Int.natCast_add, w64 _ (by omega), pu_add, show IntKind.i64.wrap (((k + 0 : Nat) : Int) + 1) = ((k + 0 + 1 : Nat) : Int) from Go.IntWalk.i64_in _ (by omega)]
            simpa [encG] using hq
        · have hne : decide ((c : Int) = 0) = false := by simp; exact hc0
          rw [hne]
          simp only [pu_gval_ft, pu_pick_f, pu_cond_f]
          rw [he, hd, getF_end hc128 (by omega)] at hq
          rw [pu_add, ← Int.natCast_add, w64 _ (by omega), pu_add, show IntKind.i64.wrap (((k + i : Nat) : Int) + 1) = ((k + i + 1 : Nat) : Int) from Go.IntWalk.i64_in _ (by omega)]
          rw [Nat.mod_eq_of_lt hc128]
          exact hq
theorem get_ok (b : List Nat) (hb : ∀ x ∈ b, x < 256) (v0 : V) (h : Hp) (r : RdB h v0 b) (hlen : b.length ≤ 1000000) (k : Nat) (hk : k ≤ b.length) :
    Ans EE 44 [v0, .int .i64 k] h fun v h' => v = encG k (getL (b.drop k)) ∧ h' = h := by
  apply a_code_Get
  unfold t_code_Get_0
  simp only [pu_lss, pu_cond_d]
  exact ⟨fun h9 => absurd h9 (by omega), fun _ => get_loop _ h b hb v0 r hlen k hk ⟨rfl, rfl⟩ 9 0 0 rfl (by omega) (by simp) rfl⟩
end
end Go.Proofs.YtpimnaojhaeiiaaGreatDoor.VM
namespace Go.Proofs.YtpimnaojhaeiiaaGreatDoor.VM
open Go
set_option linter.unusedVariables false
noncomputable section
def getT (l : List Nat) : Option (List Nat × Nat) := match getL l with
  | none => none
  | some (n, m) => if l.length - m < n then none else some ((l.drop m).take n, m + n)
def encT (k : Nat) : Option (List Nat × Nat) → V
  | some (s, m) => .tup [.str s, .int .i64 (k + m : Nat), .bool true]
  | none => .tup [.str [], .int .i64 0, .bool false]
/-- bytes of a slice that can be cut -/
structure RdF (h : Hp) (v : V) (l : List Nat) : Prop where
  rd : RdB h v l
  fits : Fits l.length v
  one : ∀ b off n lo y, v = .slo b off n lo y → y = 1
  small : ∀ x ∈ l, x < 256
  len : l.length ≤ 1000000
theorem getText_ok (b : List Nat) (v0 : V) (h : Hp) (r : RdF h v0 b) (k : Nat) (hk : k ≤ b.length) : Ans EE 46 [v0, .int .i64 k] h fun v h' => v = encT k (getT (b.drop k)) ∧ h' = h := by
  apply a_code_GetText
  unfold t_code_GetText_0
  rw [pu_call]
  refine (get_ok b r.small v0 h r.rd r.len k hk).mono fun v h1 ⟨e1, e2⟩ => ?_
  subst e1
  subst e2
  have hlen := r.len
  cases hg : getL (b.drop k) with
  | none =>
    simp only [encG, pu_extr0, pu_extr1, pu_extr2, pu_not, Bool.not_false, pu_gval_tf, pu_pick_t, pu_cond_t]
    exact ⟨by simp only [getT, hg, encT], trivial⟩
  | some p =>
    obtain ⟨n, m⟩ := p
    obtain ⟨g1, g2, g3⟩ := getL_len hg
    rw [List.length_drop] at g2
    simp only [encG, pu_extr0, pu_extr1, pu_extr2, pu_not, Bool.not_true, pu_gval_y]
    rw [pu_len r.rd s_sl_uint8]
    have e3 : IntKind.i64.wrap ((b.length : Int) - ((k + m : Nat) : Int)) = ((b.length - (k + m) : Nat) : Int) := by
      rw [show (b.length : Int) - ((k + m : Nat) : Int) = ((b.length - (k + m) : Nat) : Int) by omega]; exact w64 _ (by omega)
    simp only [pu_sub, e3, pu_gtr, pu_pick_f, pu_cond_d]
    refine ⟨fun h9 => ⟨?_, trivial⟩, fun h9 => ?_⟩
    · have : (b.drop k).length - m < n := by rw [List.length_drop]; omega
      simp only [getT, hg, this, if_true, encT]
    · have hno : ¬ (b.drop k).length - m < n := by rw [List.length_drop]; omega
      have hsum : k + m + n ≤ b.length := by omega
      have e4 : IntKind.i64.wrap (((k + m : Nat) : Int) + (n : Int)) = ((k + m + n : Nat) : Int) := by rw [← Int.natCast_add]; exact w64 _ (by omega)
      rw [pu_add, e4]
      obtain ⟨u, c1, c2, _⟩ := cut_sub r.rd r.fits s_sl_uint8 l_uint8 r.one (show k + m ≤ k + m + n by omega) hsum (fun cap hc => bounds_nat (k + m) (k + m + n) b.length cap .i64 .i64 (by omega) (by omega))
      have e5 : k + m + n - (k + m) = n := by omega
      rw [e5, Nat.mul_one, Nat.mul_one, ← List.map_drop, ← List.map_take] at c2
      have e6 : ((b.drop (k + m)).take n).length = n := by simp only [List.length_take, List.length_drop]; omega
      have c3 : RdB h1 u ((b.drop (k + m)).take n) := by rw [RdB, e6]; exact c2
      rw [c1, pu_conv_bs c3 (fun x hx => r.small x (List.mem_of_mem_drop (List.mem_of_mem_take hx))) s_sl_uint8 i_uint8 st_string, pu_add, e4]
      refine ⟨?_, trivial⟩
      simp only [getT, hg, hno, if_false, encT, List.drop_drop]
      congr 3
      rw [Nat.add_assoc]
/-! ### the Reader -/
def rdr (bv : V) (k : Nat) (bad : Bool) : Blk := .cells [bv, .int .i64 k, .bool bad] 62 false
def stepR {α : Type} (none_ : α) (k : Nat) (bad : Bool) (o : Option (α × Nat)) : α × Nat × Bool :=
  if bad then (none_, k, true) else match o with
    | some (x, m) => (x, k + m, false)
    | none => (none_, k, true)
theorem callv_fn (f : Nat) (al : List V) (h : Hp) (q : V → Hp → Prop) : (Pu EE).callv (.fn (.func f) [] []) al h q ↔ Ans EE f al h q := by
  show (∃ x, target (.fn (.func f) [] []) al = some x ∧ Ans EE x.1 x.2 h q) ↔ _
  have : target (.fn (.func f) [] []) al = some (f, al) := by simp [target]
  rw [this]; simp
theorem callv_m (f : Nat) (v : V) (al : List V) (h : Hp) (q : V → Hp → Prop) : (Pu EE).callv (.fn (.func f) [v] []) al h q ↔ Ans EE f (v :: al) h q := by
  show (∃ x, target (.fn (.func f) [v] []) al = some x ∧ Ans EE x.1 x.2 h q) ↔ _
  have : target (.fn (.func f) [v] []) al = some (f, v :: al) := by simp [target]
  rw [this]; simp
theorem num_ok (b : List Nat) (bv : V) (h : Hp) (r : RdF h bv b) (p k : Nat) (bad : Bool) (hp : h.t.get p = some (rdr bv k bad)) (hk : k ≤ b.length) (hc : C1 bv) :
    Ans EE 25 [.ptr p 0] h fun v h' => v = .int .i64 (stepR 0 k bad (getL (b.drop k))).1 ∧ Wr h h' p (rdr bv (stepR 0 k bad (getL (b.drop k))).2.1 (stepR 0 k bad (getL (b.drop k))).2.2) := by
  apply a_code_Reader_Num
  unfold t_code_Reader_Num_0
  rw [pu_call]
  apply a_code_take_int
  unfold t_code_take_int_0
  simp only [pu_nilc, fa_code_Reader_0, fa_code_Reader_1, fa_code_Reader_2, Nat.zero_add]
  rw [pu_load1 l_sl_uint8 hp (v := bv) rfl, pu_load1 l_int hp (v := .int .i64 k) rfl, callv_fn]
  refine (get_ok b r.small bv h r.rd r.len k hk).mono fun v h1 ⟨e1, e2⟩ => ?_
  subst e1
  subst e2
  cases hg : getL (b.drop k) with
  | none =>
    have e : stepR 0 k bad (none : Option (Nat × Nat)) = (0, k, true) := by cases bad <;> rfl
    simp only [encG, pu_extr0, pu_extr1, pu_extr2, pu_not, Bool.not_false, pu_gval_tf, pu_pick_t, pu_cond_t, e]
    exact pu_storeX l_bool hp rfl rfl rfl fun h2 w => ⟨by first | rfl | trivial, w⟩
  | some q =>
    obtain ⟨n, m⟩ := q
    simp only [encG, pu_extr0, pu_extr1, pu_extr2, pu_not, Bool.not_true, pu_gval_y, pu_nilc, fa_code_Reader_2, Nat.zero_add]
    rw [pu_load1 l_bool hp (v := .bool bad) rfl]
    simp only [pu_pick_f]
    cases bad with
    | true =>
      simp only [pu_cond_t]
      exact pu_storeX l_bool hp rfl rfl rfl fun h2 w => ⟨by first | rfl | trivial, w⟩
    | false =>
      simp only [pu_cond_f]
      exact pu_storeX l_int hp rfl rfl rfl fun h2 w => ⟨by first | rfl | trivial, w⟩
theorem text_ok (b : List Nat) (bv : V) (h : Hp) (r : RdF h bv b) (p k : Nat) (bad : Bool) (hp : h.t.get p = some (rdr bv k bad)) (hk : k ≤ b.length) (hc : C1 bv) :
    Ans EE 26 [.ptr p 0] h fun v h' => v = .str (stepR [] k bad (getT (b.drop k))).1 ∧ Wr h h' p (rdr bv (stepR [] k bad (getT (b.drop k))).2.1 (stepR [] k bad (getT (b.drop k))).2.2) := by
  apply a_code_Reader_Text
  unfold t_code_Reader_Text_0
  rw [pu_call]
  apply a_code_take_string
  unfold t_code_take_string_0
  simp only [pu_nilc, fa_code_Reader_0, fa_code_Reader_1, fa_code_Reader_2, Nat.zero_add]
  rw [pu_load1 l_sl_uint8 hp (v := bv) rfl, pu_load1 l_int hp (v := .int .i64 k) rfl, callv_fn]
  refine (getText_ok b bv h r k hk).mono fun v h1 ⟨e1, e2⟩ => ?_
  subst e1
  subst e2
  cases hg : getT (b.drop k) with
  | none =>
    have e : stepR [] k bad (none : Option (List Nat × Nat)) = ([], k, true) := by cases bad <;> rfl
    simp only [encT, pu_extr0, pu_extr1, pu_extr2, pu_not, Bool.not_false, pu_gval_tf, pu_pick_t, pu_cond_t, e]
    exact pu_storeX l_bool hp rfl rfl rfl fun h2 w => ⟨by first | rfl | trivial, w⟩
  | some q =>
    obtain ⟨n, m⟩ := q
    simp only [encT, pu_extr0, pu_extr1, pu_extr2, pu_not, Bool.not_true, pu_gval_y, pu_nilc, fa_code_Reader_2, Nat.zero_add]
    rw [pu_load1 l_bool hp (v := .bool bad) rfl]
    simp only [pu_pick_f]
    cases bad with
    | true =>
      simp only [pu_cond_t]
      exact pu_storeX l_bool hp rfl rfl rfl fun h2 w => ⟨by first | rfl | trivial, w⟩
    | false =>
      simp only [pu_cond_f]
      exact pu_storeX l_int hp rfl rfl rfl fun h2 w => ⟨by first | rfl | trivial, w⟩
end
end Go.Proofs.YtpimnaojhaeiiaaGreatDoor.VM
namespace Go.Proofs.YtpimnaojhaeiiaaGreatDoor.VM
open Go
set_option linter.unusedVariables false
noncomputable section
abbrev RS := Nat × Bool
def numR (b : List Nat) (s : RS) : Nat × RS := stepR 0 s.1 s.2 (getL (b.drop s.1))
def txtR (b : List Nat) (s : RS) : List Nat × RS := stepR [] s.1 s.2 (getT (b.drop s.1))
def stpR (b : List Nat) (s : RS) : Stp × RS :=
  let a := numR b s
  let c := txtR b a.2
  let d := numR b c.2
  let e := numR b d.2
  let f := numR b e.2
  let g := txtR b f.2
  (⟨a.1, c.1, d.1, e.1, f.1, g.1⟩, g.2)
def loopR (b : List Nat) : Nat → RS → List Stp → List Stp × RS
  | 0, s, acc => (acc, s)
  | n + 1, s, acc => if s.2 then ([], s) else loopR b n (stpR b s).2 (acc ++ [(stpR b s).1])
def stepsR (b : List Nat) (s : RS) : List Stp × RS := loopR b (numR b s).1 (numR b s).2 []
def getR (b : List Nat) : Option Pat :=
  let a := stepsR b (0, false)
  let c := stepsR b a.2
  let d := stepsR b c.2
  if d.2.2 || d.2.1 != b.length then none else some ⟨a.1, c.1, d.1⟩
theorem getT_len {l s : List Nat} {m : Nat} (h : getT l = some (s, m)) : 0 < m ∧ m ≤ l.length := by
  unfold getT at h
  split at h
  · cases h
  · rename_i n k hg
    obtain ⟨g1, g2, _⟩ := getL_len hg
    split at h
    · cases h
    · rename_i hno
      cases h
      exact ⟨by omega, by omega⟩
theorem numR_le {b : List Nat} {s : RS} (hk : s.1 ≤ b.length) : (numR b s).2.1 ≤ b.length ∧ s.1 ≤ (numR b s).2.1 ∧ ((numR b s).2.2 = false → s.2 = false ∧ s.1 < (numR b s).2.1) ∧ (numR b s).1 < 9223372036854775808 := by
  unfold numR stepR
  cases hb : s.2 with
  | true => simp; exact hk
  | false =>
    cases hg : getL (b.drop s.1) with
    | none => simp; exact hk
    | some p =>
      obtain ⟨n, m⟩ := p
      obtain ⟨g1, g2, g3⟩ := getL_len hg
      rw [List.length_drop] at g2
      simp
      omega
theorem txtR_le {b : List Nat} {s : RS} (hk : s.1 ≤ b.length) : (txtR b s).2.1 ≤ b.length ∧ s.1 ≤ (txtR b s).2.1 ∧ ((txtR b s).2.2 = false → s.2 = false ∧ s.1 < (txtR b s).2.1) := by
  unfold txtR stepR
  cases hb : s.2 with
  | true => simp; exact hk
  | false =>
    cases hg : getT (b.drop s.1) with
    | none => simp; exact hk
    | some p =>
      obtain ⟨n, m⟩ := p
      obtain ⟨g1, g2⟩ := getT_len hg
      rw [List.length_drop] at g2
      simp
      omega
theorem RdF.ext {N : Nat} {h h' : Hp} {v : V} {l : List Nat} (r : RdF h v l) (x : Ext N h h') (hi : In N v) : RdF h' v l := ⟨r.rd.ext x hi, r.fits, r.one, r.small, r.len⟩
abbrev OwnS (N : Nat) (h : Hp) (v : V) (l : List Stp) : Prop := Own N h v 28 6 l.length (cellsS l)
/-- the reader's block has changed -/
structure Rdr (N : Nat) (h h' : Hp) (p : Nat) (bv : V) (s : RS) : Prop where
  at_ : h'.t.get p = some (rdr bv s.1 s.2)
  ext : Ext N h h'
  other : ∀ c, c ≠ p → h'.t.get c = h.t.get c
theorem num_step {N : Nat} {b : List Nat} {bv : V} {h : Hp} (r : RdF h bv b) {p : Nat} {s : RS} (hp : h.t.get p = some (rdr bv s.1 s.2)) (hk : s.1 ≤ b.length) (hc : C1 bv) (hN : N ≤ p) (q : V → Hp → Prop) (hq : ∀ h', Rdr N h h' p bv (numR b s).2 → h'.n = h.n → q (.int .i64 (numR b s).1) h') :
    Ans EE 25 [.ptr p 0] h q := by
  refine (num_ok b bv h r p s.1 s.2 hp hk hc).mono fun v h' ⟨e, w⟩ => ?_
  subst e
  exact hq h' ⟨w.at_, w.ext hN, fun c hc => w.other c hc⟩ w.n
theorem txt_step {N : Nat} {b : List Nat} {bv : V} {h : Hp} (r : RdF h bv b) {p : Nat} {s : RS} (hp : h.t.get p = some (rdr bv s.1 s.2)) (hk : s.1 ≤ b.length) (hc : C1 bv) (hN : N ≤ p) (q : V → Hp → Prop) (hq : ∀ h', Rdr N h h' p bv (txtR b s).2 → h'.n = h.n → q (.str (txtR b s).1) h') :
    Ans EE 26 [.ptr p 0] h q := by
  refine (text_ok b bv h r p s.1 s.2 hp hk hc).mono fun v h' ⟨e, w⟩ => ?_
  subst e
  exact hq h' ⟨w.at_, w.ext hN, fun c hc => w.other c hc⟩ w.n
theorem steps_loop (N M : Nat) (b : List Nat) (bv : V) (hin : In N bv) (hc1 : C1 bv) (p : Nat) (hNp : N ≤ p) (hpM : p < M) (h0 : Hp) (hM : h0.n = M) (Q : V → Hp → Prop) (tot : Nat) (htot : tot < 9223372036854775808) : ∀ (j i : Nat), tot = i + j → ∀ (h : Hp) (v : V) (s : RS) (acc : List Stp), RdF h bv b → h.t.get p = some (rdr bv s.1 s.2) → s.1 ≤ b.length →
    OwnS M h v acc → Ext N h0 h → (∀ c, c ≠ p → c < M → h.t.get c = h0.t.get c) → acc.length ≤ s.1 + 1 → (s.2 = false → acc.length ≤ s.1) →
    (∀ v' h', OwnS M h' v' (loopR b j s acc).1 → h'.t.get p = some (rdr bv (loopR b j s acc).2.1 (loopR b j s acc).2.2) → (loopR b j s acc).2.1 ≤ b.length → Ext N h0 h' → (∀ c, c ≠ p → c < M → h'.t.get c = h0.t.get c) → Q v' h') →
    L_patch_steps_1 Q (.ptr p 0) (.fn (.func 25) [.ptr p 0] []) (.fn (.func 26) [.ptr p 0] []) v (.int .i64 tot) (.int .i64 i) h := by
  intro j
  induction j with
  | zero =>
    intro i hi h v s acc r hp hk o x fr a1 a2 hq
    apply r_patch_steps_1
    unfold t_patch_steps_1
    simp only [pu_lss, pu_cond_d]
    exact ⟨fun h9 => absurd h9 (by omega), fun _ => hq v h o hp hk x fr⟩
  | succ j ih =>
    intro i hi h v s acc r hp hk o x fr a1 a2 hq
    apply r_patch_steps_1
    unfold t_patch_steps_1
    simp only [pu_lss, pu_cond_d]
    refine ⟨fun _ => ?_, fun h9 => absurd (by omega) h9⟩
    rw [pu_nilc, fa_code_Reader_2, Nat.zero_add, pu_load1 l_bool hp (v := .bool s.2) rfl]
    cases hb : s.2 with
    | true =>
      simp only [pu_cond_t]
      have e : loopR b (j + 1) s acc = ([], s) := by rw [loopR, if_pos hb]
      rw [e] at hq
      refine hq .nils h (Own.nil _ _ _ _) ?_ hk x fr
      exact hp
    | false =>
      simp only [pu_cond_f, callv_m]
      have hl := r.len
      refine num_step r hp hk hc1 hNp _ fun h1 w1 n1 => ?_
      obtain ⟨z1, _, _, _⟩ := numR_le (b := b) hk
      have r1 := r.ext w1.ext hin
      refine txt_step r1 w1.at_ z1 hc1 hNp _ fun h2 w2 n2 => ?_
      obtain ⟨z2, _, _⟩ := txtR_le (b := b) z1
      have r2 := r1.ext w2.ext hin
      refine num_step r2 w2.at_ z2 hc1 hNp _ fun h3 w3 n3 => ?_
      obtain ⟨z3, _, _, _⟩ := numR_le (b := b) z2
      have r3 := r2.ext w3.ext hin
      refine num_step r3 w3.at_ z3 hc1 hNp _ fun h4 w4 n4 => ?_
      obtain ⟨z4, _, _, _⟩ := numR_le (b := b) z3
      have r4 := r3.ext w4.ext hin
      refine num_step r4 w4.at_ z4 hc1 hNp _ fun h5 w5 n5 => ?_
      obtain ⟨z5, _, _, _⟩ := numR_le (b := b) z4
      have r5 := r4.ext w5.ext hin
      refine txt_step r5 w5.at_ z5 hc1 hNp _ fun h6 w6 n6 => ?_
      obtain ⟨z6, _, y6⟩ := txtR_le (b := b) z5
      have r6 := r5.ext w6.ext hin
      have hall : ∀ c, c ≠ p → h6.t.get c = h.t.get c := fun c hc => (w6.other c hc).trans ((w5.other c hc).trans ((w4.other c hc).trans ((w3.other c hc).trans ((w2.other c hc).trans (w1.other c hc)))))
      have x6 : Ext N h h6 := w1.ext.trans (w2.ext.trans (w3.ext.trans (w4.ext.trans (w5.ext.trans w6.ext))))
      have o6 : OwnS M h6 v acc := o.keep x6.n (fun c hc => hall c (by have := o.ge c hc; omega))
      rw [pu_build so_api_Step _ (by simp [c1_int, c1_str]) rfl]
      show (Pu EE).bsl h6 _ 1 [(0, .agg (stpR b s).1.cells)] _
      rw [pu_lit1 s_sl_api_Step l_api_Step _ rfl (by omega)]
      have hMn : M ≤ h6.n := by rw [← hM]; exact Nat.le_trans x.n x6.n
      have o7 : OwnS M (h6.new (.cells (V.agg (stpR b s).1.cells).cells 28 false)) v acc := o6.keep (Nat.le_succ _) (fun c hc => by rw [Hp.get_new, if_neg (Nat.ne_of_lt (o6.in_ c hc))])
      have hacc : acc.length ≤ b.length := by have := a2 hb; omega
      obtain ⟨v8, h8, g1, g2, g3, g4, g5⟩ := own_append o7 (ts := #[24, 24]) rfl rfl s_sl_api_Step (noInt s_sl_api_Step) l_api_Step (elems_rd (rd_lit (h := h6) (e := 28) (ws := (V.agg (stpR b s).1.cells).cells) (sz := 6) rfl).rd).1 (fun h => by cases h) rfl (by omega) (Nat.le_succ_of_le hMn)
      rw [g1, pu_add, show IntKind.i64.wrap ((i : Int) + 1) = ((i + 1 : Nat) : Int) from Go.IntWalk.i64_in _ (by omega)]
      have x8 : Ext N h h8 := x6.trans ((Ext.new (by omega) _).trans (g3.mono (by omega)))
      have hpv : blkOf v ≠ some p := fun e => by have := o.ge p e; omega
      have hp8 : h8.t.get p = some (rdr bv (stpR b s).2.1 (stpR b s).2.2) := by
        rw [g4 p (by rw [Hp.n_new]; omega) hpv, Hp.get_new, if_neg (by omega)]
        exact w6.at_
      have e : loopR b (j + 1) s acc = loopR b j (stpR b s).2 (acc ++ [(stpR b s).1]) := by rw [loopR, if_neg (by rw [hb]; simp)]
      rw [e] at hq
      have hac : (acc ++ [(stpR b s).1]).length = acc.length + 1 := by simp
      refine ih (i + 1) (by omega) h8 v8 (stpR b s).2 (acc ++ [(stpR b s).1]) (r.ext x8 hin) hp8 z6 ?_ (x.trans x8) (fun c hc hcM => ?_) ?_ (fun hf => ?_) hq
      · rw [OwnS, hac]
        simpa [cellsS, Stp.cells, V.cells] using g2
      · have h1v : blkOf v ≠ some c := fun e => by have := o.ge c e; omega
        rw [g4 c (by rw [Hp.n_new]; omega) h1v, Hp.get_new, if_neg (by omega), hall c hc]
        exact fr c hc hcM
      · rw [hac]
        have : s.1 ≤ (stpR b s).2.1 := by
          obtain ⟨_, y1, _⟩ := numR_le (b := b) hk
          obtain ⟨_, y2, _⟩ := txtR_le (b := b) z1
          obtain ⟨_, y3, _⟩ := numR_le (b := b) z2
          obtain ⟨_, y4, _⟩ := numR_le (b := b) z3
          obtain ⟨_, y5, _⟩ := numR_le (b := b) z4
          obtain ⟨_, y6, _⟩ := txtR_le (b := b) z5
          have : (stpR b s).2.1 = (txtR b (numR b (numR b (numR b (txtR b (numR b s).2).2).2).2).2).2.1 := rfl
          omega
        have := a2 hb
        omega
      · rw [hac]
        have : s.1 < (stpR b s).2.1 := by
          obtain ⟨_, y1, _⟩ := numR_le (b := b) hk
          obtain ⟨_, y2, _⟩ := txtR_le (b := b) z1
          obtain ⟨_, y3, _⟩ := numR_le (b := b) z2
          obtain ⟨_, y4, _⟩ := numR_le (b := b) z3
          obtain ⟨_, y5, _⟩ := numR_le (b := b) z4
          obtain ⟨_, y6, y7⟩ := txtR_le (b := b) z5
          have e1 : (stpR b s).2 = (txtR b (numR b (numR b (numR b (txtR b (numR b s).2).2).2).2).2).2 := rfl
          rw [e1] at hf
          have := (y7 hf).2
          rw [e1]
          omega
        have := a2 hb
        omega
theorem steps_ok (N : Nat) (b : List Nat) (bv : V) (hin : In N bv) (hc1 : C1 bv) (p : Nat) (hNp : N ≤ p) (h : Hp) (hpM : p < h.n) (r : RdF h bv b) (s : RS) (hp : h.t.get p = some (rdr bv s.1 s.2)) (hk : s.1 ≤ b.length) :
    Ans EE 17 [.ptr p 0] h fun v h' => OwnS h.n h' v (stepsR b s).1 ∧ h'.t.get p = some (rdr bv (stepsR b s).2.1 (stepsR b s).2.2) ∧ (stepsR b s).2.1 ≤ b.length ∧ Ext N h h' ∧ ∀ c, c ≠ p → c < h.n → h'.t.get c = h.t.get c := by
  apply a_patch_steps
  unfold t_patch_steps_0
  rw [callv_m]
  refine num_step r hp hk hc1 hNp _ fun h1 w1 n1 => ?_
  obtain ⟨z1, z2, z3, z4⟩ := numR_le (b := b) hk
  refine steps_loop N h.n b bv hin hc1 p hNp hpM h rfl _ (numR b s).1 z4 (numR b s).1 0 (by omega) h1 .nils (numR b s).2 [] (r.ext w1.ext hin) w1.at_ z1 (Own.nil _ _ _ _) w1.ext (fun c hc _ => w1.other c hc) (by simp) (by simp) fun v' h' o a k x f => ⟨o, a, k, x, f⟩
def encP (o : Option Pat) (N : Nat) (h : Hp) (v : V) : Prop := match o with
  | some p => ∃ u, v = .tup [u, .bool true] ∧ RdP h.n h u p
  | none => ∃ u, v = .tup [u, .bool false] ∧ RdP h.n h u ⟨[], [], []⟩
theorem Get_ok (b : List Nat) (bv : V) (h : Hp) (hin : In h.n bv) (r : RdF h bv b) : Ans EE 8 [bv] h fun v h' => encP (getR b) h.n h' v ∧ Ext h.n h h' := by
  have hc1 := r.rd.c1
  apply a_patch_Get
  unfold t_patch_Get_0
  refine pu_allocX l_api_Patch fun h1 b1 w1 => ?_
  rw [pu_build so_code_Reader _ (by simp [hc1]) rfl]
  show (Pu EE).box h1 _ (.agg [bv, .int .i64 0, .bool false]) _
  refine pu_boxX (by show (bif bv.isCell then _ else _) = true; rw [hc1.2]; rfl) fun h2 b2 w2 => ?_
  have x1 := w1.ext (N := h.n) (Nat.le_refl _)
  have x2 := w2.ext (N := h.n) (by rw [w1.n]; omega)
  have x12 := x1.trans x2
  have hb2 : h.n ≤ b2 ∧ b2 < h2.n := by rw [w2.b, w2.n, w1.n]; omega
  have hb1 : b1 < h2.n ∧ b1 ≠ b2 ∧ h.n ≤ b1 := by rw [w2.b, w2.n, w1.n, w1.b]; omega
  have g1 : h2.t.get b1 = some (.cells [.nils, .nils, .nils] 26 false) := by rw [w2.old b1 (by rw [w1.n, w1.b]; omega)]; exact w1.at_
  rw [pu_call]
  refine (steps_ok h.n b bv hin hc1 b2 hb2.1 h2 hb2.2 (r.ext x12 hin) (0, false) w2.at_ (Nat.zero_le _)).mono fun v3 h3 ⟨o3, p3, k3, x3, f3⟩ => ?_
  rw [pu_call]
  refine (steps_ok h.n b bv hin hc1 b2 hb2.1 h3 (Nat.lt_of_lt_of_le hb2.2 x3.n) (r.ext (x12.trans x3) hin) _ p3 k3).mono fun v4 h4 ⟨o4, p4, k4, x4, f4⟩ => ?_
  rw [pu_call]
  refine (steps_ok h.n b bv hin hc1 b2 hb2.1 h4 (Nat.lt_of_lt_of_le hb2.2 (Nat.le_trans x3.n x4.n)) (r.ext (x12.trans (x3.trans x4)) hin) _ p4 k4).mono fun v5 h5 ⟨o5, p5, k5, x5, f5⟩ => ?_
  have n34 := x3.n
  have n45 := x4.n
  have n56 := x5.n
  have q3 : OwnS h2.n h5 v3 (stepsR b (0, false)).1 := by
    refine (o3.keep x4.n fun c hc => f4 c ?_ (o3.in_ c hc)).keep x5.n fun c hc => f5 c ?_ (Nat.lt_of_lt_of_le (o3.in_ c hc) x4.n) <;> (have := o3.ge c hc; omega)
  have q4 : OwnS h3.n h5 v4 (stepsR b (stepsR b (0, false)).2).1 := o4.keep x5.n fun c hc => f5 c (by have := o4.ge c hc; omega) (o4.in_ c hc)
  have gb1 : h5.t.get b1 = some (.cells [.nils, .nils, .nils] 26 false) := by
    rw [f5 b1 hb1.2.1 (by omega), f4 b1 hb1.2.1 (by omega), f3 b1 hb1.2.1 hb1.1]; exact g1
  rw [pu_build so_api_Patch _ (by simp [q3.rd.c1, q4.rd.c1, o5.rd.c1]) rfl]
  show (Pu EE).alloc h5 _ _
  refine pu_allocX l_api_Patch fun h6 b6 w6 => ?_
  have hcell : allCells (V.agg [v3, v4, v5]).cells = true := by show allCells [v3, v4, v5] = true; simp only [allCells, q3.rd.c1.2, q4.rd.c1.2, o5.rd.c1.2, cond_true]
  refine pu_storeX l_api_Patch w6.at_ (x := .agg [v3, v4, v5]) rfl hcell (r := [v3, v4, v5]) rfl fun h7 w7 => ?_
  have e6 : ∀ c, c < h5.n → h7.t.get c = h5.t.get c := fun c hc => (w7.other c (by rw [w6.b]; omega)).trans (w6.old c hc)
  have n7 : h7.n = h5.n + 1 := by rw [w7.n, w6.n]
  have hp7 : h7.t.get b2 = some (rdr bv (stepsR b (stepsR b (stepsR b (0, false)).2).2).2.1 (stepsR b (stepsR b (stepsR b (0, false)).2).2).2.2) := by rw [e6 b2 (by omega)]; exact p5
  have hg7 : h7.t.get b1 = some (.cells [.nils, .nils, .nils] 26 false) := by rw [e6 b1 (by omega)]; exact gb1
  have x7 : Ext h.n h h7 := x12.trans (x3.trans (x4.trans (x5.trans ⟨by omega, fun c hc => e6 c (by omega)⟩)))
  simp only [pu_nilc, fa_code_Reader_2, Nat.zero_add]
  rw [pu_load1 l_bool hp7 (v := .bool (stepsR b (stepsR b (stepsR b (0, false)).2).2).2.2) rfl]
  have r7 := r.ext x7 hin
  have bad : ∀ h8, h8 = h7 → getR b = none → (Pu EE).build 26 [] fun x42 => (Pu EE).store h8 26 (.ptr b1 0) x42 fun h43 => (Pu EE).load h43 26 (.ptr b1 0) fun x44 => encP (getR b) h.n h43 (.tup [x44, .bool false]) ∧ Ext h.n h h43 := by
    intro h8 e8 hn
    subst e8
    rw [pu_build so_api_Patch _ (by simp) rfl]
    refine pu_storeX l_api_Patch hg7 (x := .agg [.nils, .nils, .nils]) rfl rfl (r := [.nils, .nils, .nils]) rfl fun h9 w9 => ?_
    rw [pu_loadS l_api_Patch w9.at_ (l := [.nils, .nils, .nils]) rfl, hn]
    exact ⟨⟨_, rfl, ⟨_, _, _, rfl, (Own.nil 0 _ 0 _).rd, (Own.nil 0 _ 0 _).rd, (Own.nil 0 _ 0 _).rd, (fun _ h => by cases h), (fun _ h => by cases h), (fun _ h => by cases h)⟩⟩, x7.trans (w9.ext hb1.2.2)⟩
  have hgr : getR b = if (stepsR b (stepsR b (stepsR b (0, false)).2).2).2.2 || (stepsR b (stepsR b (stepsR b (0, false)).2).2).2.1 != b.length then none else some ⟨(stepsR b (0, false)).1, (stepsR b (stepsR b (0, false)).2).1, (stepsR b (stepsR b (stepsR b (0, false)).2).2).1⟩ := rfl
  generalize stepsR b (stepsR b (stepsR b (0, false)).2).2 = s3 at *
  cases hb3 : s3.2.2 with
  | true =>
    rw [hb3] at hgr
    simp only [pu_gval_tf, pu_pick_t, pu_cond_t]
    exact bad h7 rfl (by rw [hgr]; rfl)
  | false =>
    rw [hb3] at hgr
    simp only [pu_gval_y, pu_nilc, fa_code_Reader_1, Nat.zero_add]
    rw [pu_load1 l_int hp7 (v := .int .i64 s3.2.1) rfl]
    rw [pu_len r7.rd s_sl_uint8]
    simp only [pu_neq, pu_pick_f, pu_cond_n]
    refine ⟨fun hne => bad h7 rfl ?_, fun heq => ?_⟩
    · rw [hgr]; have : ¬ s3.2.1 = b.length := fun e => hne (by rw [e]); simp [this]
    · have he : s3.2.1 = b.length := by omega
      rw [pu_loadS l_api_Patch w7.at_ (l := [v3, v4, v5]) rfl]
      refine pu_storeX l_api_Patch hg7 (x := .agg [v3, v4, v5]) rfl hcell (r := [v3, v4, v5]) rfl fun h9 w9 => ?_
      rw [pu_loadS l_api_Patch w9.at_ (l := [v3, v4, v5]) rfl, hgr]
      simp only [he, bne_self_eq_false, Bool.or_self, Bool.false_eq_true, if_false]
      have e9 : ∀ c, c < h5.n → c ≠ b1 → h9.t.get c = h5.t.get c := fun c hc hne => (w9.other c hne).trans (e6 c hc)
      have n9 : h5.n ≤ h9.n := by rw [w9.n]; omega
      refine ⟨⟨_, rfl, ⟨v3, v4, v5, rfl, ?_, ?_, ?_, ?_, ?_, ?_⟩⟩, x7.trans (w9.ext hb1.2.2)⟩
      · exact (q3.keep n9 fun c hc => e9 c (q3.in_ c hc) (by have := q3.ge c hc; omega)).rd
      · exact (q4.keep n9 fun c hc => e9 c (q4.in_ c hc) (by have := q4.ge c hc; omega)).rd
      · exact (o5.keep n9 fun c hc => e9 c (o5.in_ c hc) (by have := o5.ge c hc; omega)).rd
      · exact q3.in_.mono n9
      · exact q4.in_.mono n9
      · exact o5.in_.mono n9
end
end Go.Proofs.YtpimnaojhaeiiaaGreatDoor.VM
namespace Go.Proofs.YtpimnaojhaeiiaaGreatDoor.VM
open Go
set_option linter.unusedVariables false
theorem drop_more {b x r : List Nat} {k : Nat} (h : b.drop k = x ++ r) : b.drop (k + x.length) = r := by
  rw [← List.drop_drop, h, List.drop_left]
theorem numR_put {b r : List Nat} {k n : Nat} (h : b.drop k = putL n ++ r) (hn : n < 9223372036854775808) : numR b (k, false) = (n, (k + (putL n).length, false)) := by
  unfold numR stepR
  simp only [h, getL_putL hn r, Bool.false_eq_true, if_false]
theorem getT_put {s r : List Nat} (hs : s.length < 9223372036854775808) : getT (putT s ++ r) = some (s, (putT s).length) := by
  unfold getT putT
  rw [List.append_assoc, getL_putL hs]
  simp only [List.length_append]
  rw [if_neg (by omega), List.drop_left, List.take_left]
theorem txtR_put {b r s : List Nat} {k : Nat} (h : b.drop k = putT s ++ r) (hs : s.length < 9223372036854775808) : txtR b (k, false) = (s, (k + (putT s).length, false)) := by
  unfold txtR stepR
  simp only [h, getT_put hs, Bool.false_eq_true, if_false]
structure Stp.fit (x : Stp) : Prop where
  k : x.k < 9223372036854775808
  s : x.s.length < 9223372036854775808
  a : x.a < 9223372036854775808
  c : x.c < 9223372036854775808
  n : x.n < 9223372036854775808
  t : x.t.length < 9223372036854775808
theorem stpR_put {b r : List Nat} {k : Nat} {x : Stp} (h : b.drop k = putStp x ++ r) (f : x.fit) : stpR b (k, false) = (x, (k + (putStp x).length, false)) := by
  have e : putStp x = putL x.k ++ (putT x.s ++ (putL x.a ++ (putL x.c ++ (putL x.n ++ putT x.t)))) := by simp [putStp]
  rw [e] at h
  simp only [List.append_assoc] at h
  have h1 := numR_put h f.k
  have d1 := drop_more h
  have h2 := txtR_put d1 f.s
  have d2 := drop_more d1
  have h3 := numR_put d2 f.a
  have d3 := drop_more d2
  have h4 := numR_put d3 f.c
  have d4 := drop_more d3
  have h5 := numR_put d4 f.n
  have d5 := drop_more d4
  have h6 := txtR_put d5 f.t
  unfold stpR
  simp only [h1, h2, h3, h4, h5, h6]
  rw [e]
  simp only [List.length_append, Nat.add_assoc]
theorem loopR_put : ∀ (l : List Stp) (b r : List Nat) (k : Nat) (acc : List Stp), b.drop k = l.flatMap putStp ++ r → (∀ x ∈ l, x.fit) → loopR b l.length (k, false) acc = (acc ++ l, (k + (l.flatMap putStp).length, false))
  | [], b, r, k, acc, h, _ => by simp [loopR]
  | x :: l, b, r, k, acc, h, hf => by
    rw [List.flatMap_cons, List.append_assoc] at h
    have h1 := stpR_put h (hf x (by simp))
    rw [List.length_cons, loopR, if_neg (by simp), h1]
    have := loopR_put l b r (k + (putStp x).length) (acc ++ [x]) (drop_more h) fun y hy => hf y (by simp [hy])
    simp only at this ⊢
    rw [this, List.flatMap_cons, List.length_append]
    simp [Nat.add_assoc]
theorem stepsR_put {l : List Stp} {b r : List Nat} {k : Nat} (h : b.drop k = putSt l ++ r) (hf : ∀ x ∈ l, x.fit) (hl : l.length < 9223372036854775808) : stepsR b (k, false) = (l, (k + (putSt l).length, false)) := by
  unfold putSt at h
  rw [List.append_assoc] at h
  have h1 := numR_put h hl
  unfold stepsR
  rw [h1]
  have := loopR_put l b r (k + (putL l.length).length) [] (drop_more h) hf
  simp only at this ⊢
  rw [this, putSt, List.length_append]
  simp [Nat.add_assoc]
structure Pat.fit (p : Pat) : Prop where
  a : (∀ x ∈ p.a, x.fit) ∧ p.a.length < 9223372036854775808
  b : (∀ x ∈ p.b, x.fit) ∧ p.b.length < 9223372036854775808
  c : (∀ x ∈ p.c, x.fit) ∧ p.c.length < 9223372036854775808
/-- where reading a patch's bytes ends -/
theorem three_put (p : Pat) (f : p.fit) : stepsR (putP p) (0, false) = (p.a, ((putSt p.a).length, false)) ∧ stepsR (putP p) ((putSt p.a).length, false) = (p.b, ((putSt p.a).length + (putSt p.b).length, false)) ∧
    stepsR (putP p) ((putSt p.a).length + (putSt p.b).length, false) = (p.c, ((putP p).length, false)) := by
  have h0 : (putP p).drop 0 = putSt p.a ++ (putSt p.b ++ (putSt p.c ++ [])) := by simp [putP]
  have d1 := drop_more h0
  have d2 := drop_more d1
  rw [Nat.zero_add] at d1 d2
  have h1 := stepsR_put h0 f.a.1 f.a.2
  have h2 := stepsR_put d1 f.b.1 f.b.2
  have h3 := stepsR_put d2 f.c.1 f.c.2
  rw [Nat.zero_add] at h1
  refine ⟨h1, h2, ?_⟩
  rw [h3]
  simp [putP, Nat.add_assoc]
theorem getR_put (p : Pat) (f : p.fit) : getR (putP p) = some p := by
  obtain ⟨h1, h2, h3⟩ := three_put p f
  unfold getR
  simp only [h1, h2, h3, bne_self_eq_false, Bool.or_self, Bool.false_eq_true, if_false]
/-! what is read is read whatever stands behind -/
theorem numR_mono {b : List Nat} {s : RS} (r : List Nat) (hk : s.1 ≤ b.length) (h : (numR b s).2.2 = false) : numR (b ++ r) s = numR b s := by
  unfold numR stepR at h ⊢
  cases hb : s.2 with
  | true => rw [hb] at h; simp at h
  | false =>
    rw [hb] at h
    rw [List.drop_append_of_le_length hk]
    cases hg : getL (b.drop s.1) with
    | none => rw [hg] at h; simp at h
    | some p => rw [getL_mono hg r]
theorem getT_mono {l : List Nat} {p : List Nat × Nat} (h : getT l = some p) (r : List Nat) : getT (l ++ r) = some p := by
  unfold getT at h ⊢
  split at h
  · cases h
  · rename_i n m hg
    obtain ⟨g1, g2, _⟩ := getL_len hg
    rw [getL_mono hg r]
    split at h
    · cases h
    · rename_i hno
      simp only [List.length_append]
      rw [if_neg (by omega), List.drop_append_of_le_length g2, List.take_append_of_le_length (by rw [List.length_drop]; omega)]
      exact h
theorem txtR_mono {b : List Nat} {s : RS} (r : List Nat) (hk : s.1 ≤ b.length) (h : (txtR b s).2.2 = false) : txtR (b ++ r) s = txtR b s := by
  unfold txtR stepR at h ⊢
  cases hb : s.2 with
  | true => rw [hb] at h; simp at h
  | false =>
    rw [hb] at h
    rw [List.drop_append_of_le_length hk]
    cases hg : getT (b.drop s.1) with
    | none => rw [hg] at h; simp at h
    | some p => rw [getT_mono hg r]
theorem stpR_facts {b : List Nat} {s : RS} (hk : s.1 ≤ b.length) : (stpR b s).2.1 ≤ b.length ∧ ((stpR b s).2.2 = false → s.2 = false ∧ ∀ r, stpR (b ++ r) s = stpR b s) := by
  obtain ⟨z1, _, y1, _⟩ := numR_le (b := b) hk
  obtain ⟨z2, _, y2⟩ := txtR_le (b := b) z1
  obtain ⟨z3, _, y3, _⟩ := numR_le (b := b) z2
  obtain ⟨z4, _, y4, _⟩ := numR_le (b := b) z3
  obtain ⟨z5, _, y5, _⟩ := numR_le (b := b) z4
  obtain ⟨z6, _, y6⟩ := txtR_le (b := b) z5
  refine ⟨z6, fun h => ?_⟩
  have h : (txtR b (numR b (numR b (numR b (txtR b (numR b s).2).2).2).2).2).2.2 = false := h
  have e5 := (y6 h).1
  have e4 := (y5 e5).1
  have e3 := (y4 e4).1
  have e2 := (y3 e3).1
  have e1 := (y2 e2).1
  refine ⟨(y1 e1).1, fun r => ?_⟩
  unfold stpR
  simp only [numR_mono r hk e1, txtR_mono r z1 e2, numR_mono r z2 e3, numR_mono r z3 e4, numR_mono r z4 e5, txtR_mono r z5 h]
theorem loopR_facts (b : List Nat) : ∀ (n : Nat) (s : RS) (acc : List Stp), s.1 ≤ b.length → (loopR b n s acc).2.1 ≤ b.length ∧ ((loopR b n s acc).2.2 = false → s.2 = false ∧ ∀ r, loopR (b ++ r) n s acc = loopR b n s acc)
  | 0, s, acc, hk => ⟨hk, fun h => ⟨h, fun r => rfl⟩⟩
  | n + 1, s, acc, hk => by
    rw [loopR]
    cases hb : s.2 with
    | true => simp only [if_true]; exact ⟨hk, fun h => by rw [hb] at h; cases h⟩
    | false =>
      simp only [Bool.false_eq_true, if_false]
      obtain ⟨f1, f2⟩ := stpR_facts hk
      obtain ⟨f3, f4⟩ := loopR_facts b n (stpR b s).2 (acc ++ [(stpR b s).1]) f1
      refine ⟨f3, fun h => ⟨trivial, fun r => ?_⟩⟩
      obtain ⟨g1, g2⟩ := f4 h
      obtain ⟨_, g3⟩ := f2 g1
      rw [loopR, if_neg (by rw [hb]; simp), g3 r, g2 r]
theorem stepsR_facts {b : List Nat} {s : RS} (hk : s.1 ≤ b.length) : (stepsR b s).2.1 ≤ b.length ∧ ((stepsR b s).2.2 = false → s.2 = false ∧ ∀ r, stepsR (b ++ r) s = stepsR b s) := by
  obtain ⟨z1, _, y1, _⟩ := numR_le (b := b) hk
  obtain ⟨f1, f2⟩ := loopR_facts b (numR b s).1 (numR b s).2 [] z1
  refine ⟨f1, fun h => ?_⟩
  obtain ⟨g1, g2⟩ := f2 h
  refine ⟨(y1 g1).1, fun r => ?_⟩
  unfold stepsR
  rw [numR_mono r hk g1, g2 r]
theorem getR_cut (p : Pat) (f : p.fit) : getR (putP p).dropLast = none := by
  obtain ⟨h1, h2, h3⟩ := three_put p f
  have hne : putP p ≠ [] := by
    intro e
    have := putL_pos p.a.length
    have hl := congrArg List.length e
    simp only [putP, putSt, List.length_append, List.length_nil] at hl
    omega
  have hcat := List.dropLast_concat_getLast hne
  have hlen : (putP p).dropLast.length + 1 = (putP p).length := by
    have := congrArg List.length hcat
    rw [List.length_append] at this
    simpa using this
  generalize hb : (putP p).dropLast = b at *
  obtain ⟨k1, m1⟩ := stepsR_facts (b := b) (s := (0, false)) (Nat.zero_le _)
  obtain ⟨k2, m2⟩ := stepsR_facts (b := b) k1
  obtain ⟨k3, m3⟩ := stepsR_facts (b := b) k2
  unfold getR
  simp only
  by_cases hbad : (stepsR b (stepsR b (stepsR b (0, false)).2).2).2.2 = true
  · rw [hbad]; rfl
  · have hbad : (stepsR b (stepsR b (stepsR b (0, false)).2).2).2.2 = false := by simpa using hbad
    obtain ⟨c2, e3⟩ := m3 hbad
    obtain ⟨c1, e2⟩ := m2 c2
    obtain ⟨_, e1⟩ := m1 c1
    have q1 := e1 [(putP p).getLast hne]
    have q2 := e2 [(putP p).getLast hne]
    have q3 := e3 [(putP p).getLast hne]
    rw [hcat] at q1 q2 q3
    rw [← q1] at q2 q3
    rw [h1] at q2
    have q2' : stepsR b (p.a, ((putSt p.a).length, false)).2 = stepsR b ((putSt p.a).length, false) := rfl
    exfalso
    rw [← q1, h1] at k3
    have k3' : (stepsR b (stepsR b ((putSt p.a).length, false)).2).2.1 ≤ b.length := k3
    have q3' : stepsR (putP p) (stepsR b ((putSt p.a).length, false)).2 = stepsR b (stepsR b ((putSt p.a).length, false)).2 := by rw [h1] at q3; exact q3
    have q2'' : stepsR (putP p) ((putSt p.a).length, false) = stepsR b ((putSt p.a).length, false) := q2
    rw [← q3', ← q2'', h2] at k3'
    have : (stepsR (putP p) ((putSt p.a).length + (putSt p.b).length, false)).2.1 ≤ b.length := k3'
    rw [h3] at this
    simp only at this
    omega
end Go.Proofs.YtpimnaojhaeiiaaGreatDoor.VM
namespace Go.Proofs.YtpimnaojhaeiiaaGreatDoor.VM
open Go
set_option linter.unusedVariables false
noncomputable section
theorem rem_nat (t : Nat) (cx cy : Bool) (k : IntKind) (a b : Nat) (hb : b ≠ 0) (q : V → Prop) : (Pu EE).bin .rem t cx cy (.int k a) (.int k b) q ↔ q (.int k ((a % b : Nat) : Int)) := by
  rw [pu_rem _ _ _ _ _ _ (by omega)]; rfl
theorem quo_nat (t : Nat) (cx cy : Bool) (k : IntKind) (a b : Nat) (hb : b ≠ 0) (q : V → Prop) : (Pu EE).bin .quo t cx cy (.int k a) (.int k b) q ↔ q (.int k (k.wrap ((a / b : Nat) : Int))) := by
  rw [pu_quo _ _ _ _ _ _ (by omega)]; rfl
theorem wrap8 (n : Nat) (h : n < 256) : IntKind.u8.wrap (n : Int) = (n : Int) := by rw [wrap_u8]; omega
def stepS (n m : Nat) : Stp :=
  if 1 + n % 6 ≤ 2 then ⟨1 + n % 6, [65 + n / 6 % 4], 0, m % 5, m / 5 % 7, []⟩ else ⟨1 + n % 6, [65 + n / 6 % 4], m % 7, 0, 0, []⟩
theorem step_ok (n m : Nat) (hn : n < 256) (hm : m < 256) (h : Hp) : Ans EE 5 [.int .u8 n, .int .u8 m] h fun v h' => v = .agg (stepS n m).cells ∧ Ext h.n h h' := by
  apply a_law17_Step
  unfold t_law17_Step_0
  refine pu_allocX l_api_Step fun h1 b1 w1 => ?_
  rw [pu_conv i_uint8 i_int, w64 _ (by omega), show (6 : Int) = ((6 : Nat) : Int) from rfl, rem_nat _ _ _ _ _ _ (by omega), pu_add, show IntKind.i64.wrap (1 + ((n % 6 : Nat) : Int)) = ((1 + n % 6 : Nat) : Int) by rw [show 1 + ((n % 6 : Nat) : Int) = ((1 + n % 6 : Nat) : Int) by omega]; exact w64 _ (by omega)]
  rw [quo_nat _ _ _ _ _ _ (by omega), wrap8 _ (by omega), show (4 : Int) = ((4 : Nat) : Int) from rfl, rem_nat _ _ _ _ _ _ (by omega), pu_add, show IntKind.u8.wrap (65 + ((n / 6 % 4 : Nat) : Int)) = ((65 + n / 6 % 4 : Nat) : Int) by rw [show 65 + ((n / 6 % 4 : Nat) : Int) = ((65 + n / 6 % 4 : Nat) : Int) by omega]; exact wrap8 _ (by omega)]
  rw [pu_lit1 s_sl_uint8 l_uint8 _ rfl (by omega)]
  have hr : RdB (h1.new (.cells (V.int .u8 ((65 + n / 6 % 4 : Nat) : Int)).cells 5 false)) (.sl h1.n 0 1 1) [65 + n / 6 % 4] := (rd_lit (h := h1) (e := 5) (ws := [V.int .u8 ((65 + n / 6 % 4 : Nat) : Int)]) rfl).rd
  rw [pu_conv_bs hr (by simp; omega) s_sl_uint8 i_uint8 st_string]
  obtain ⟨h2, hh2⟩ : ∃ h2, h2 = h1.new (.cells (V.int .u8 ((65 + n / 6 % 4 : Nat) : Int)).cells 5 false) := ⟨_, rfl⟩
  have n2 : h2.n = h1.n + 1 := by rw [hh2]; rfl
  have x2 : Ext h1.n h1 h2 := by rw [hh2]; exact Ext.new (Nat.le_refl _) _
  rw [← hh2]
  clear hh2 hr
  rw [pu_conv i_uint8 i_int, w64 _ (by omega), show (7 : Int) = ((7 : Nat) : Int) from rfl, rem_nat _ _ _ _ _ _ (by omega), pu_build so_api_Step _ (by simp [c1_int, c1_str]) rfl]
  show (Pu EE).alloc h2 _ _
  refine pu_allocX l_api_Step fun h3 b3 w3 => ?_
  refine pu_storeX l_api_Step w3.at_ (x := .agg [.int .i64 (1 + n % 6 : Nat), .str [65 + n / 6 % 4], .int .i64 (m % 7 : Nat), .int .i64 0, .int .i64 0, .str []]) rfl rfl (r := [.int .i64 (1 + n % 6 : Nat), .str [65 + n / 6 % 4], .int .i64 (m % 7 : Nat), .int .i64 0, .int .i64 0, .str []]) rfl fun h4 w4 => ?_
  have n1 := w1.n
  have e1 := w1.b
  have n3 := w3.n
  have e3 := w3.b
  have n4 := w4.n
  have hb1 : h4.t.get b1 = some (.cells [.int .i64 0, .str [], .int .i64 0, .int .i64 0, .int .i64 0, .str []] 28 false) := by
    rw [w4.other b1 (by omega), w3.old b1 (by omega), x2.old b1 (by omega)]; exact w1.at_
  have x4 : Ext h.n h h4 := (w1.ext (Nat.le_refl _)).trans ((x2.mono (by omega)).trans ((w3.ext (by omega)).trans (w4.ext (by omega))))
  have fin : ∀ (h5 : Hp) (s : Stp), h5.t.get b3 = some (.cells s.cells 28 false) → h5.t.get b1 = some (.cells [.int .i64 0, .str [], .int .i64 0, .int .i64 0, .int .i64 0, .str []] 28 false) → Ext h.n h h5 → s = stepS n m →
      (Pu EE).load h5 28 (.ptr b3 0) fun x => (Pu EE).store h5 28 (.ptr b1 0) x fun h6 => (Pu EE).load h6 28 (.ptr b1 0) fun y => y = .agg (stepS n m).cells ∧ Ext h.n h h6 := by
    intro h5 s g1 g2 x5 es
    rw [pu_loadS l_api_Step g1 (l := s.cells) rfl]
    refine pu_storeX l_api_Step g2 (x := .agg s.cells) rfl rfl (r := s.cells) rfl fun h6 w6 => ?_
    rw [pu_loadS l_api_Step w6.at_ (l := s.cells) rfl, es]
    exact ⟨rfl, x5.trans (w6.ext (by omega))⟩
  simp only [fa_api_Step_0, fa_api_Step_2, fa_api_Step_3, fa_api_Step_4, Nat.zero_add]
  rw [pu_load1 l_int w4.at_ (v := .int .i64 (1 + n % 6 : Nat)) rfl]
  simp only [pu_leq, pu_cond_d]
  refine ⟨fun h9 => ?_, fun h9 => ?_⟩
  · refine pu_storeX l_int w4.at_ rfl rfl rfl fun h5 w5 => ?_
    rw [pu_conv i_uint8 i_int, w64 _ (by omega), show (5 : Int) = ((5 : Nat) : Int) from rfl, rem_nat _ _ _ _ _ _ (by omega)]
    refine pu_storeX l_int w5.at_ rfl rfl rfl fun h6 w6 => ?_
    rw [pu_conv i_uint8 i_int, w64 _ (by omega), quo_nat _ _ _ _ _ _ (by omega), w64 _ (by omega), rem_nat _ _ _ _ _ _ (by omega)]
    refine pu_storeX l_int w6.at_ rfl rfl rfl fun h7 w7 => ?_
    refine fin h7 ⟨1 + n % 6, [65 + n / 6 % 4], 0, m % 5, m / 5 % 7, []⟩ w7.at_ ?_ (x4.trans ((w5.ext (by omega)).trans ((w6.ext (by omega)).trans (w7.ext (by omega))))) ?_
    · rw [w7.other b1 (by omega), w6.other b1 (by omega), w5.other b1 (by omega)]; exact hb1
    · unfold stepS; rw [if_pos (by omega)]
  · refine fin h4 ⟨1 + n % 6, [65 + n / 6 % 4], m % 7, 0, 0, []⟩ w4.at_ hb1 x4 ?_
    unfold stepS; rw [if_neg (by omega)]
/-! ### Digits -/
theorem wrapu64 (n : Nat) (h : n < 9223372036854775808) : IntKind.u64.wrap (n : Int) = (n : Int) := by
  unfold IntKind.wrap
  simp [IntKind.bits, IntKind.signed]
  omega
theorem digits_loop (N : Nat) (Q : V → Hp → Prop) (z : Nat) : ∀ (j u : Nat) (acc : List Nat) (h : Hp), u < 10 ^ j → u < 1000000 → acc.length + j ≤ 20 → (∀ x ∈ acc, x < 256) → N ≤ h.n →
    (∀ s h', s.length ≤ 21 → (∀ x ∈ s, x < 256) → Ext N h h' → Q (.str s) h') → L_r1_Digits_1 Q (.int .i64 z) (.int .u64 u) (.str acc) h := by
  intro j
  induction j with
  | zero =>
    intro u acc h hu hu2 hl ha hN hq
    have hu0 : u = 0 := by simpa using hu
    subst hu0
    apply r_r1_Digits_1
    unfold t_r1_Digits_1
    simp only [pu_geq, pu_cond_d]
    refine ⟨fun h9 => absurd h9 (by omega), fun _ => ?_⟩
    rw [pu_add, show IntKind.u64.wrap (48 + ((0 : Nat) : Int)) = ((48 : Nat) : Int) from wrapu64 48 (by omega), pu_conv i_uint64 i_uint8, wrap8 _ (by omega), pu_lit1 s_sl_uint8 l_uint8 _ rfl (by omega)]
    have hr : RdB (h.new (.cells (V.int .u8 ((48 : Nat) : Int)).cells 5 false)) (.sl h.n 0 1 1) [48] := (rd_lit (h := h) (e := 5) (ws := [V.int .u8 ((48 : Nat) : Int)]) rfl).rd
    rw [pu_conv_bs hr (by simp) s_sl_uint8 i_uint8 st_string, pu_sadd _ _ _ _ _ (by simp; omega)]
    simp only [pu_lss, pu_cond_d]
    refine ⟨fun h9 => absurd h9 (by omega), fun _ => hq _ _ (by simp; omega) ?_ (Ext.new hN _)⟩
    intro x hx
    rcases List.mem_append.1 hx with h1 | h1
    · simp at h1; omega
    · exact ha x h1
  | succ j ih =>
    intro u acc h hu hu2 hl ha hN hq
    apply r_r1_Digits_1
    unfold t_r1_Digits_1
    simp only [pu_geq, pu_cond_d]
    refine ⟨fun h9 => ?_, fun h9 => ?_⟩
    · rw [show (10 : Int) = ((10 : Nat) : Int) from rfl, rem_nat _ _ _ _ _ _ (by omega), pu_add, show IntKind.u64.wrap (48 + ((u % 10 : Nat) : Int)) = ((48 + u % 10 : Nat) : Int) by rw [show 48 + ((u % 10 : Nat) : Int) = ((48 + u % 10 : Nat) : Int) by omega]; exact wrapu64 _ (by omega), pu_conv i_uint64 i_uint8, wrap8 _ (by omega), pu_lit1 s_sl_uint8 l_uint8 _ rfl (by omega)]
      have hr : RdB (h.new (.cells (V.int .u8 ((48 + u % 10 : Nat) : Int)).cells 5 false)) (.sl h.n 0 1 1) [48 + u % 10] := (rd_lit (h := h) (e := 5) (ws := [V.int .u8 ((48 + u % 10 : Nat) : Int)]) rfl).rd
      rw [pu_conv_bs hr (by simp; omega) s_sl_uint8 i_uint8 st_string, pu_sadd _ _ _ _ _ (by simp; omega), quo_nat _ _ _ _ _ _ (by omega), wrapu64 _ (by omega)]
      have x1 : Ext N h (h.new (.cells (V.int .u8 ((48 + u % 10 : Nat) : Int)).cells 5 false)) := Ext.new hN _
      refine ih (u / 10) _ _ (by rw [Nat.pow_succ] at hu; omega) (by omega) (by simp; omega) ?_ (Nat.le_succ_of_le hN) fun s h' a1 a2 a3 => hq s h' a1 a2 (x1.trans a3)
      intro x hx
      rcases List.mem_append.1 hx with h1 | h1
      · simp at h1; omega
      · exact ha x h1
    · rw [pu_add, show IntKind.u64.wrap (48 + (u : Int)) = ((48 + u : Nat) : Int) by rw [show 48 + (u : Int) = ((48 + u : Nat) : Int) by omega]; exact wrapu64 _ (by omega), pu_conv i_uint64 i_uint8, wrap8 _ (by omega), pu_lit1 s_sl_uint8 l_uint8 _ rfl (by omega)]
      have hr : RdB (h.new (.cells (V.int .u8 ((48 + u : Nat) : Int)).cells 5 false)) (.sl h.n 0 1 1) [48 + u] := (rd_lit (h := h) (e := 5) (ws := [V.int .u8 ((48 + u : Nat) : Int)]) rfl).rd
      rw [pu_conv_bs hr (by simp; omega) s_sl_uint8 i_uint8 st_string, pu_sadd _ _ _ _ _ (by simp; omega)]
      simp only [pu_lss, pu_cond_d]
      refine ⟨fun h9 => absurd h9 (by omega), fun _ => hq _ _ (by simp; omega) ?_ (Ext.new hN _)⟩
      intro x hx
      rcases List.mem_append.1 hx with h1 | h1
      · simp at h1; omega
      · exact ha x h1
theorem digits_ok (n : Nat) (hn : n < 1000000) (h : Hp) : Ans EE 6 [.int .i64 n] h fun v h' => ∃ s, v = .str s ∧ s.length ≤ 21 ∧ (∀ x ∈ s, x < 256) ∧ Ext h.n h h' := by
  apply a_r1_Digits
  unfold t_r1_Digits_0
  rw [pu_conv i_int i_uint64, wrapu64 _ (by omega)]
  simp only [pu_lss, pu_cond_d]
  refine ⟨fun h9 => absurd h9 (by omega), fun _ => ?_⟩
  apply r_r1_Digits_2
  unfold t_r1_Digits_2
  exact digits_loop h.n _ n 6 n [] h (by omega) hn (by simp) (by simp) (Nat.le_refl _) fun s h' a1 a2 a3 => ⟨s, rfl, a1, a2, a3⟩
end
end Go.Proofs.YtpimnaojhaeiiaaGreatDoor.VM
namespace Go.Proofs.YtpimnaojhaeiiaaGreatDoor.VM
open Go
set_option linter.unusedVariables false
noncomputable section
def turnS (x : Stp) : Stp := ⟨turnK x.k, x.s, x.a, x.c, x.n, x.t⟩
def undoP (p : Pat) : Pat := ⟨(p.a.map turnS).reverse, p.c, p.b⟩
theorem revT_cells : ∀ (l : List Stp) (acc : List Stp), revT l.length (cellsS l) (cellsS acc) = some (cellsS ((l.map turnS).reverse ++ acc))
  | [], acc => by simp [revT, cellsS]
  | x :: l, acc => by
    have e : cellsS (x :: l) = .int .i64 (.ofNat x.k) :: .str x.s :: .int .i64 (.ofNat x.a) :: .int .i64 (.ofNat x.c) :: .int .i64 (.ofNat x.n) :: .str x.t :: cellsS l := by simp [cellsS, Stp.cells]
    rw [e, List.length_cons, revT]
    have e2 : (V.int .i64 (.ofNat (turnK x.k)) :: .str x.s :: .int .i64 (.ofNat x.a) :: .int .i64 (.ofNat x.c) :: .int .i64 (.ofNat x.n) :: .str x.t :: cellsS acc) = cellsS (turnS x :: acc) := by simp [cellsS, Stp.cells, turnS]
    rw [e2, revT_cells l (turnS x :: acc)]
    simp
theorem Rd.isSl {h : Hp} {sz : Nat} {v : V} {len : Nat} {cs : List V} (r : Rd h sz v len cs) : isSlV v = true := by
  rcases r.at_ with ⟨rfl | rfl, _⟩ | ⟨b, off, vs, _, _, ⟨c, rfl⟩ | ⟨lo, z, rfl⟩⟩ <;> rfl
theorem Rd.same {h : Hp} {sz : Nat} {v : V} {len : Nat} {cs : List V} (r : Rd h sz v len cs) : same1 v v = true ∧ sameV v v = true := by
  rcases r.at_ with ⟨rfl | rfl, _⟩ | ⟨b, off, vs, _, _, ⟨c, rfl⟩ | ⟨lo, z, rfl⟩⟩ <;> simp [sameV, same1]
theorem mkS_ok (h : Hp) (l : List Stp) : RdS (mkS h (cellsS l) l.length).2 (mkS h (cellsS l) l.length).1 l ∧ Ext h.n h (mkS h (cellsS l) l.length).2 ∧ In (mkS h (cellsS l) l.length).2.n (mkS h (cellsS l) l.length).1 := by
  unfold mkS
  cases hb : Nat.beq l.length 0 with
  | true =>
    have h0 := Nat.eq_of_beq_eq_true hb
    have : l = [] := by simpa using h0
    subst this
    simp only [cond_true]
    exact ⟨⟨by simp [cellsS], .inl ⟨.inr rfl, rfl⟩⟩, Ext.refl _ _, fun b hb => by cases hb⟩
  | false =>
    simp only [cond_false]
    have hl : (cellsS l).length = l.length * 6 := by
      clear hb
      induction l with
      | nil => rfl
      | cons x l ih =>
        have : cellsS (x :: l) = x.cells ++ cellsS l := rfl
        rw [this, List.length_append, ih, List.length_cons]
        simp [Stp.cells]
        omega
    refine ⟨⟨hl, .inr ⟨h.n, 0, cellsS l, ?_, sub_all hl, .inr ⟨_, _, rfl⟩⟩⟩, Ext.new (Nat.le_refl _) _, fun b hb => ?_⟩
    · exact rdCells_of (by rw [Hp.get_new, if_pos rfl])
    · cases hb; exact Nat.lt_succ_self _
theorem undo_ok (p : Pat) (v : V) (h : Hp) (r : RdP h.n h v p) (hl : p.a.length ≤ 1000 ∧ p.b.length ≤ 1000 ∧ p.c.length ≤ 1000) : Ans EE 7 [v] h fun u h' => RdP h'.n h' u (undoP p) ∧ Ext h.n h h' := by
  obtain ⟨x, y, z, rfl, rx, ry, rz, ix, iy, iz⟩ := r.out
  obtain ⟨a1, a2, a3⟩ := mkS_ok h p.c
  obtain ⟨b1, b2, b3⟩ := mkS_ok (mkS h (cellsS p.c) p.c.length).2 p.b
  have hlen : ((p.a.map turnS).reverse).length = p.a.length := by simp
  obtain ⟨c1, c2, c3⟩ := mkS_ok (mkS (mkS h (cellsS p.c) p.c.length).2 (cellsS p.b) p.b.length).2 (p.a.map turnS).reverse
  rw [hlen] at c1 c2 c3
  have hrev : revT p.a.length (cellsS p.a) [] = some (cellsS (p.a.map turnS).reverse) := by have := revT_cells p.a []; simpa [cellsS] using this
  have hrevb : revT p.b.length (cellsS p.b) [] = some (cellsS (p.b.map turnS).reverse) := by have := revT_cells p.b []; simpa [cellsS] using this
  have hrevc : revT p.c.length (cellsS p.c) [] = some (cellsS (p.c.map turnS).reverse) := by have := revT_cells p.c []; simpa [cellsS] using this
  have hu : undoH [.agg [x, y, z]] h = some (.agg [(mkS (mkS (mkS h (cellsS p.c) p.c.length).2 (cellsS p.b) p.b.length).2 (cellsS (p.a.map turnS).reverse) p.a.length).1, (mkS h (cellsS p.c) p.c.length).1, (mkS (mkS h (cellsS p.c) p.c.length).2 (cellsS p.b) p.b.length).1], (mkS (mkS (mkS h (cellsS p.c) p.c.length).2 (cellsS p.b) p.b.length).2 (cellsS (p.a.map turnS).reverse) p.a.length).2) := by
    simp only [undoH, rx.isSl, ry.isSl, rz.isSl, Bool.and_self, cond_true, (elems_rd rx).1, (elems_rd ry).1, (elems_rd rz).1, Option.bind_some, Nat.ble_eq_true_of_le hl.1, Nat.ble_eq_true_of_le hl.2.1, Nat.ble_eq_true_of_le hl.2.2, hrev, hrevb, hrevc]
  refine ⟨_, _, Cs.hook (g := undoH) (by kernel_rfl) hu, ⟨⟨_, _, _, rfl, c1, ?_, ?_, c3, ?_, ?_⟩⟩, (a2.trans (b2.mono a2.n)).trans (c2.mono (Nat.le_trans a2.n b2.n))⟩
  · exact (a1.ext b2 a3).ext c2 (a3.mono b2.n)
  · exact b1.ext c2 b3
  · exact a3.mono (Nat.le_trans b2.n c2.n)
  · exact b3.mono c2.n
end
end Go.Proofs.YtpimnaojhaeiiaaGreatDoor.VM
namespace Go.Proofs.YtpimnaojhaeiiaaGreatDoor.VM
open Go
set_option linter.unusedVariables false
noncomputable section
def Far (v u : V) : Prop := ∀ i, blkOf v = some i → blkOf u ≠ some i
theorem Far.symm {v u : V} (h : Far v u) : Far u v := fun i hi hv => h i hv hi
/-- a patch that is being built: its box, and its three lists -/
structure Bld (N : Nat) (h : Hp) (pb : Nat) (a b c : V) (p : Pat) : Prop where
  get : h.t.get pb = some (.cells [a, b, c] 26 false)
  oa : OwnS N h a p.a
  ob : OwnS N h b p.b
  oc : OwnS N h c p.c
  ab : Far a b
  ac : Far a c
  bc : Far b c
  na : blkOf a ≠ some pb
  nb : blkOf b ≠ some pb
  nc : blkOf c ≠ some pb
  lo : N ≤ pb
  lt : pb < h.n
theorem Own.ext {N : Nat} {h h' : Hp} {v : V} {el sz len : Nat} {cs : List V} (o : Own N h v el sz len cs) (x : Ext h.n h h') : Own N h' v el sz len cs := o.keep x.n fun i hi => x.old i (o.in_ i hi)
theorem Bld.ext {N : Nat} {h h' : Hp} {pb : Nat} {a b c : V} {p : Pat} (B : Bld N h pb a b c p) (x : Ext h.n h h') : Bld N h' pb a b c p :=
  ⟨(x.old pb B.lt).trans B.get, B.oa.ext x, B.ob.ext x, B.oc.ext x, B.ab, B.ac, B.bc, B.na, B.nb, B.nc, B.lo, Nat.lt_of_lt_of_le B.lt x.n⟩
theorem Bld.rdP {N : Nat} {h : Hp} {pb : Nat} {a b c : V} {p : Pat} (B : Bld N h pb a b c p) : RdP h.n h (.agg [a, b, c]) p :=
  ⟨a, b, c, rfl, B.oa.rd, B.ob.rd, B.oc.rd, B.oa.in_, B.ob.in_, B.oc.in_⟩
theorem Bld.ld {N : Nat} {h : Hp} {pb : Nat} {a b c : V} {p : Pat} (B : Bld N h pb a b c p) (q : V → Prop) : (Pu EE).load h 26 (.ptr pb 0) q ↔ q (.agg [a, b, c]) := pu_loadS l_api_Patch B.get (l := [a, b, c]) rfl q
theorem Bld.la {N : Nat} {h : Hp} {pb : Nat} {a b c : V} {p : Pat} (B : Bld N h pb a b c p) (q : V → Prop) : (Pu EE).load h 24 (.ptr pb 0) q ↔ q a := pu_load1 l_sl_api_Step B.get (v := a) rfl q
theorem Bld.lb {N : Nat} {h : Hp} {pb : Nat} {a b c : V} {p : Pat} (B : Bld N h pb a b c p) (q : V → Prop) : (Pu EE).load h 24 (.ptr pb 1) q ↔ q b := pu_load1 l_sl_api_Step B.get (v := b) rfl q
theorem Bld.lc {N : Nat} {h : Hp} {pb : Nat} {a b c : V} {p : Pat} (B : Bld N h pb a b c p) (q : V → Prop) : (Pu EE).load h 24 (.ptr pb 2) q ↔ q c := pu_load1 l_sl_api_Step B.get (v := c) rfl q
theorem lit_stp (x : Stp) {h : Hp} {q : V → Hp → Blk → Prop} (hq : ∀ h1 y k, RdS h1 y [x] → Ext h.n h h1 → q y h1 k) : (Pu EE).bsl h 24 1 [(0, .agg x.cells)] q := by
  rw [pu_lit1 s_sl_api_Step l_api_Step _ rfl (by omega)]
  exact hq _ _ _ (by have := (rd_lit (h := h) (e := 28) (ws := (V.agg x.cells).cells) (sz := 6) rfl).rd; simpa [RdS, cellsS, V.cells] using this) (Ext.new (Nat.le_refl _) _)
theorem grow_stp {N : Nat} {h : Hp} {v y : V} {l : List Stp} (o : OwnS N h v l) (x : Stp) (r : RdS h y [x]) (hl : l.length ≤ 1000) (hN : N ≤ h.n) {q : V → Hp → Prop}
    (hq : ∀ v' h', OwnS N h' v' (l ++ [x]) → Ext N h h' → (∀ c, c < h.n → blkOf v ≠ some c → h'.t.get c = h.t.get c) → (∀ c, blkOf v' = some c → blkOf v = some c ∨ h.n ≤ c) → C1 v' → q v' h') :
    (Pu EE).ebui h #[24, 24] .append [v, y] q := by
  obtain ⟨v8, h8, g1, g2, g3, g4, g5⟩ := own_append o (ts := #[24, 24]) rfl rfl s_sl_api_Step (noInt s_sl_api_Step) l_api_Step (elems_rd r).1 (fun h => by rw [(elems_rd r).2] at h; cases h) rfl (by simp; omega) hN
  rw [g1]
  have g2' : OwnS N h8 v8 (l ++ [x]) := by
    have hac : (l ++ [x]).length = l.length + 1 := by simp
    rw [OwnS, hac]
    simpa [cellsS] using g2
  exact hq v8 h8 g2' g3 g4 g5 g2'.rd.c1
theorem Bld.add_a {N : Nat} {h : Hp} {pb : Nat} {a b c y : V} {p : Pat} (B : Bld N h pb a b c p) (x : Stp) (r : RdS h y [x]) (hl : p.a.length ≤ 1000) {q : Hp → Prop}
    (hq : ∀ h' v, Bld N h' pb v b c ⟨p.a ++ [x], p.b, p.c⟩ → Ext N h h' → q h') :
    (Pu EE).ebui h #[24, 24] .append [a, y] fun v h' => (Pu EE).store h' 24 (.ptr pb 0) v q := by
  have hN : N ≤ h.n := by have := B.lo; have := B.lt; omega
  refine grow_stp B.oa x r hl hN fun v h1 o x1 k d c1 => ?_
  have dn : ∀ {w : V}, Far a w → In h.n w → Far v w := fun f i j hj hw => by
    rcases d j hj with e | e
    · exact f j e hw
    · have := i j hw; omega
  have hg : h1.t.get pb = some (.cells [a, b, c] 26 false) := (k pb B.lt B.na).trans B.get
  refine pu_storeX l_sl_api_Step hg (x := v) (by rw [c1.1]; rfl) (by rw [c1.1]; show allCells [v] = true; simp only [allCells, c1.2, cond_true]) (r := [v, b, c]) (by rw [c1.1]; rfl) fun h2 w => ?_
  have hv : blkOf v ≠ some pb := fun e => by
    rcases d pb e with e | e
    · exact B.na e
    · have := B.lt; omega
  refine hq h2 v ⟨w.at_, ?_, ?_, ?_, dn B.ab B.ob.in_, dn B.ac B.oc.in_, B.bc, hv, B.nb, B.nc, B.lo, by rw [w.n]; exact Nat.lt_of_lt_of_le B.lt x1.n⟩ (x1.trans (w.ext B.lo))
  · exact o.keep (by rw [w.n]; omega) fun i hi => w.other i fun e => hv (e ▸ hi)
  · exact (B.ob.keep x1.n fun i hi => k i (B.ob.in_ i hi) fun e => B.ab i e hi).keep (by rw [w.n]; omega) fun i hi => w.other i fun e => B.nb (e ▸ hi)
  · exact (B.oc.keep x1.n fun i hi => k i (B.oc.in_ i hi) fun e => B.ac i e hi).keep (by rw [w.n]; omega) fun i hi => w.other i fun e => B.nc (e ▸ hi)
theorem Bld.add_b {N : Nat} {h : Hp} {pb : Nat} {a b c y : V} {p : Pat} (B : Bld N h pb a b c p) (x : Stp) (r : RdS h y [x]) (hl : p.b.length ≤ 1000) {q : Hp → Prop}
    (hq : ∀ h' v, Bld N h' pb a v c ⟨p.a, p.b ++ [x], p.c⟩ → Ext N h h' → q h') :
    (Pu EE).ebui h #[24, 24] .append [b, y] fun v h' => (Pu EE).store h' 24 (.ptr pb 1) v q := by
  have hN : N ≤ h.n := by have := B.lo; have := B.lt; omega
  refine grow_stp B.ob x r hl hN fun v h1 o x1 k d c1 => ?_
  have dn : ∀ {w : V}, Far b w → In h.n w → Far v w := fun f i j hj hw => by
    rcases d j hj with e | e
    · exact f j e hw
    · have := i j hw; omega
  have hg : h1.t.get pb = some (.cells [a, b, c] 26 false) := (k pb B.lt B.nb).trans B.get
  refine pu_storeX l_sl_api_Step hg (x := v) (by rw [c1.1]; rfl) (by rw [c1.1]; show allCells [v] = true; simp only [allCells, c1.2, cond_true]) (r := [a, v, c]) (by rw [c1.1]; rfl) fun h2 w => ?_
  have hv : blkOf v ≠ some pb := fun e => by
    rcases d pb e with e | e
    · exact B.nb e
    · have := B.lt; omega
  refine hq h2 v ⟨w.at_, ?_, ?_, ?_, (dn B.ab.symm B.oa.in_).symm, B.ac, dn B.bc B.oc.in_, B.na, hv, B.nc, B.lo, by rw [w.n]; exact Nat.lt_of_lt_of_le B.lt x1.n⟩ (x1.trans (w.ext B.lo))
  · exact (B.oa.keep x1.n fun i hi => k i (B.oa.in_ i hi) fun e => B.ab i hi e).keep (by rw [w.n]; omega) fun i hi => w.other i fun e => B.na (e ▸ hi)
  · exact o.keep (by rw [w.n]; omega) fun i hi => w.other i fun e => hv (e ▸ hi)
  · exact (B.oc.keep x1.n fun i hi => k i (B.oc.in_ i hi) fun e => B.bc i e hi).keep (by rw [w.n]; omega) fun i hi => w.other i fun e => B.nc (e ▸ hi)
theorem Bld.add_c {N : Nat} {h : Hp} {pb : Nat} {a b c y : V} {p : Pat} (B : Bld N h pb a b c p) (x : Stp) (r : RdS h y [x]) (hl : p.c.length ≤ 1000) {q : Hp → Prop}
    (hq : ∀ h' v, Bld N h' pb a b v ⟨p.a, p.b, p.c ++ [x]⟩ → Ext N h h' → q h') :
    (Pu EE).ebui h #[24, 24] .append [c, y] fun v h' => (Pu EE).store h' 24 (.ptr pb 2) v q := by
  have hN : N ≤ h.n := by have := B.lo; have := B.lt; omega
  refine grow_stp B.oc x r hl hN fun v h1 o x1 k d c1 => ?_
  have dn : ∀ {w : V}, Far c w → In h.n w → Far v w := fun f i j hj hw => by
    rcases d j hj with e | e
    · exact f j e hw
    · have := i j hw; omega
  have hg : h1.t.get pb = some (.cells [a, b, c] 26 false) := (k pb B.lt B.nc).trans B.get
  refine pu_storeX l_sl_api_Step hg (x := v) (by rw [c1.1]; rfl) (by rw [c1.1]; show allCells [v] = true; simp only [allCells, c1.2, cond_true]) (r := [a, b, v]) (by rw [c1.1]; rfl) fun h2 w => ?_
  have hv : blkOf v ≠ some pb := fun e => by
    rcases d pb e with e | e
    · exact B.nc e
    · have := B.lt; omega
  refine hq h2 v ⟨w.at_, ?_, ?_, ?_, B.ab, (dn B.ac.symm B.oa.in_).symm, (dn B.bc.symm B.ob.in_).symm, B.na, B.nb, hv, B.lo, by rw [w.n]; exact Nat.lt_of_lt_of_le B.lt x1.n⟩ (x1.trans (w.ext B.lo))
  · exact (B.oa.keep x1.n fun i hi => k i (B.oa.in_ i hi) fun e => B.ac i hi e).keep (by rw [w.n]; omega) fun i hi => w.other i fun e => B.na (e ▸ hi)
  · exact (B.ob.keep x1.n fun i hi => k i (B.ob.in_ i hi) fun e => B.bc i hi e).keep (by rw [w.n]; omega) fun i hi => w.other i fun e => B.nb (e ▸ hi)
  · exact o.keep (by rw [w.n]; omega) fun i hi => w.other i fun e => hv (e ▸ hi)
/-- a byte of a slice, now and later -/
theorem byte_at {N : Nat} {h : Hp} {v : V} {l : List Nat} (r : RdB h v l) (hv : In N v) {i n : Nat} (hi : l[i]? = some n) :
    ∃ p, (∀ (k : IntKind) (q : V → Prop), (Pu EE).iaddr 22 v (.int k i) q ↔ q p) ∧ ∀ h1, Ext N h h1 → ∀ q : V → Prop, (Pu EE).load h1 5 p q ↔ q (.int .u8 n) := by
  have hil : i < l.length := (List.getElem?_eq_some_iff.1 hi).1
  have hel : elemAt false 1 (l.map vB) i = .int .u8 n := by
    simp only [elemAt, Bool.false_eq_true, if_false, List.getElem?_map, hi, Option.map_some, Option.getD_some, vB]
  obtain ⟨b, o, hb, k1, k2, _⟩ := rd_at r s_sl_uint8 l_uint8 (fun _ => rfl) (by decide) hil
  refine ⟨.ptr b o, k1, fun h1 x q => ?_⟩
  obtain ⟨b', o', _, j1, j2, _⟩ := rd_at (r.ext x hv) s_sl_uint8 l_uint8 (fun _ => rfl) (by decide) hil
  have e : V.ptr b o = V.ptr b' o' := (k1 .i64 fun u => u = V.ptr b' o').1 ((j1 .i64 fun u => u = V.ptr b' o').2 rfl)
  rw [e, j2, hel]
end
end Go.Proofs.YtpimnaojhaeiiaaGreatDoor.VM
namespace Go.Proofs.YtpimnaojhaeiiaaGreatDoor.VM
open Go
set_option linter.unusedVariables false
noncomputable section
def shapeL : List Nat → List Stp
  | n :: m :: r => stepS n m :: shapeL r
  | _ => []
theorem shapeL_len : ∀ l, (shapeL l).length ≤ l.length
  | [] => Nat.le_refl _
  | [_] => Nat.zero_le _
  | _ :: _ :: r => by have := shapeL_len r; simp only [shapeL, List.length_cons]; omega
def setS (t : List Nat) (n : Nat) : Stp := ⟨7, [65], n, 0, 0, t⟩
theorem add1 (t : Nat) (cx cy : Bool) (i m : Nat) (k : Int) (e : (m : Int) = k) (hi : i < 1000000) (hk : m < 10) (q : V → Prop) : (Pu EE).bin .add t cx cy (.int .i64 i) (.int .i64 k) q ↔ q (.int .i64 ((i + m : Nat) : Int)) := by
  rw [pu_add, ← e]
  have : IntKind.i64.wrap ((i : Int) + (m : Int)) = ((i + m : Nat) : Int) := by
    rw [show (i : Int) + (m : Int) = ((i + m : Nat) : Int) by omega]; exact w64 _ (by omega)
  rw [this]
theorem same_int (k : IntKind) (n : Int) (P : Prop) : (Pu EE).same (.int k n) (.int k n) P ↔ P := by
  show (sameV (.int k n) (.int k n) = true ∧ P) ↔ P
  have : sameV (.int k n) (.int k n) = true := by simp [sameV, same1, keq_refl, ieq_dec]
  simp [this]
theorem same_rd {h : Hp} {sz : Nat} {v : V} {len : Nat} {cs : List V} (r : Rd h sz v len cs) (P : Prop) : (Pu EE).same v v P ↔ P := by
  show (sameV v v = true ∧ P) ↔ P
  simp [r.same.2]
theorem drop_get {l r : List Nat} {i n : Nat} (h : l.drop i = n :: r) : l[i]? = some n ∧ l.drop (i + 1) = r ∧ i < l.length := by
  have h1 : l[i]? = some n := by have := congrArg (·[0]?) h; simpa using this
  refine ⟨h1, ?_, (List.getElem?_eq_some_iff.1 h1).1⟩
  have := congrArg (List.drop 1) h
  rw [List.drop_drop] at this
  simpa using this
theorem loop_1 (N : Nat) (Q : V → Hp → Prop) (l : List Nat) (hl : ∀ x ∈ l, x < 256) (hll : l.length ≤ 1000) (v0 v1 v2 v3 : V) (hv : In N v0) (pb : Nat) : ∀ (rest : List Nat) (i : Nat) (h : Hp) (a b c : V) (p : Pat), l.drop i = rest → i ≤ l.length → p.a.length ≤ i → RdB h v0 l → Bld N h pb a b c p →
    (∀ h' a, Bld N h' pb a b c ⟨p.a ++ shapeL rest, p.b, p.c⟩ → Ext N h h' → L_law17_PatchUndo_2 Q v1 v2 v3 (.ptr pb 0) (.int .i64 0) h') → L_law17_PatchUndo_1 Q v0 v1 v2 v3 (.ptr pb 0) (.int .i64 i) h
  | [], i, h, a, b, c, p, hr, hi, hp, r, B, hq => by
    have e : l.length ≤ i := by have := congrArg List.length hr; simp at this; omega
    apply r_law17_PatchUndo_1
    unfold t_law17_PatchUndo_1
    rw [add1 _ _ _ i 1 1 rfl (by omega) (by omega), pu_len r s_sl_uint8]
    simp only [pu_lss, pu_cond_d]
    refine ⟨fun h9 => absurd h9 (by omega), fun _ => ?_⟩
    exact hq h a (by simpa [shapeL] using B) (Ext.refl _ _)
  | [n], i, h, a, b, c, p, hr, hi, hp, r, B, hq => by
    have e : l.length = i + 1 := by have := congrArg List.length hr; simp at this; omega
    apply r_law17_PatchUndo_1
    unfold t_law17_PatchUndo_1
    rw [add1 _ _ _ i 1 1 rfl (by omega) (by omega), pu_len r s_sl_uint8]
    simp only [pu_lss, pu_cond_d]
    refine ⟨fun h9 => absurd h9 (by omega), fun _ => ?_⟩
    exact hq h a (by simpa [shapeL] using B) (Ext.refl _ _)
  | n :: m :: rest, i, h, a, b, c, p, hr, hi, hp, r, B, hq => by
    obtain ⟨g1, g2, g3⟩ := drop_get hr
    obtain ⟨k1, k2, k3⟩ := drop_get g2
    obtain ⟨p1, i1, l1⟩ := byte_at r hv g1
    obtain ⟨p2, i2, l2⟩ := byte_at r hv k1
    have hn := hl n (List.mem_of_getElem? g1)
    have hm := hl m (List.mem_of_getElem? k1)
    have hN : N ≤ h.n := by have := B.lo; have := B.lt; omega
    apply r_law17_PatchUndo_1
    unfold t_law17_PatchUndo_1
    rw [add1 _ _ _ i 1 1 rfl (by omega) (by omega), pu_len r s_sl_uint8]
    simp only [pu_lss, pu_cond_d]
    refine ⟨fun _ => ?_, fun h9 => absurd (by omega) h9⟩
    rw [fa_api_Patch_0, Nat.add_zero, B.la, i1, l1 h (Ext.refl _ _), add1 _ _ _ i 1 1 rfl (by omega) (by omega), i2, l2 h (Ext.refl _ _), pu_call]
    refine (step_ok n m hn hm h).mono fun v h2 ⟨e2, x2⟩ => ?_
    subst e2
    have B2 := B.ext x2
    rw [B2.la, same_rd B2.oa.rd]
    refine lit_stp _ fun h3 y k3' ry x3 => ?_
    have B3 := B2.ext x3
    rw [B3.la, same_rd B3.oa.rd]
    simp only [fa_api_Patch_0, Nat.add_zero]
    refine B3.add_a (stepS n m) ry (by omega) fun h4 v4 B4 x4 => ?_
    have xx : Ext N h h4 := (x2.mono hN).trans ((x3.mono (Nat.le_trans hN x2.n)).trans x4)
    rw [add1 _ _ _ i 2 2 rfl (by omega) (by omega)]
    refine loop_1 N Q l hl hll v0 v1 v2 v3 hv pb rest (i + 2) h4 v4 b c _ k2 (by omega) (by simp; omega) (r.ext xx hv) B4 fun h5 a5 B5 x5 => hq h5 a5 (by simpa [shapeL] using B5) (xx.trans x5)
theorem loop_2 (N : Nat) (Q : V → Hp → Prop) (l : List Nat) (hl : ∀ x ∈ l, x < 256) (hll : l.length ≤ 1000) (v1 v2 : V) (t : List Nat) (hv : In N v1) (pb : Nat) : ∀ (rest : List Nat) (i : Nat) (h : Hp) (a b c : V) (p : Pat), l.drop i = rest → i ≤ l.length → p.b.length ≤ i → RdB h v1 l → Bld N h pb a b c p →
    (∀ h' b, Bld N h' pb a b c ⟨p.a, p.b ++ rest.map (setS t), p.c⟩ → Ext N h h' → L_law17_PatchUndo_3 Q v2 (.ptr pb 0) (.int .i64 0) h') → L_law17_PatchUndo_2 Q v1 v2 (.str t) (.ptr pb 0) (.int .i64 i) h
  | [], i, h, a, b, c, p, hr, hi, hp, r, B, hq => by
    have e : l.length ≤ i := by have := congrArg List.length hr; simp at this; omega
    apply r_law17_PatchUndo_2
    unfold t_law17_PatchUndo_2
    rw [pu_len r s_sl_uint8]
    simp only [pu_lss, pu_cond_d]
    refine ⟨fun h9 => absurd h9 (by omega), fun _ => ?_⟩
    exact hq h b (by simpa using B) (Ext.refl _ _)
  | n :: rest, i, h, a, b, c, p, hr, hi, hp, r, B, hq => by
    obtain ⟨g1, g2, g3⟩ := drop_get hr
    obtain ⟨p1, i1, l1⟩ := byte_at r hv g1
    have hn := hl n (List.mem_of_getElem? g1)
    have hN : N ≤ h.n := by have := B.lo; have := B.lt; omega
    apply r_law17_PatchUndo_2
    unfold t_law17_PatchUndo_2
    rw [pu_len r s_sl_uint8]
    simp only [pu_lss, pu_cond_d]
    refine ⟨fun _ => ?_, fun h9 => absurd (by omega) h9⟩
    rw [fa_api_Patch_1, Nat.zero_add, B.lb, i1, l1 h (Ext.refl _ _), pu_conv i_uint8 i_int, w64 _ (by omega), pu_build so_api_Step _ (by simp [c1_int, c1_str]) rfl]
    show (Pu EE).bsl h _ 1 [(0, .agg (setS t n).cells)] _
    refine lit_stp _ fun h3 y k3' ry x3 => ?_
    have B3 := B.ext x3
    rw [pu_conv i_uint8 i_int, w64 _ (by omega), same_int, l1 h3 (x3.mono hN), same_int, B3.lb, same_rd B3.ob.rd]
    simp only [fa_api_Patch_1, Nat.zero_add]
    refine B3.add_b (setS t n) ry (by omega) fun h4 v4 B4 x4 => ?_
    have xx : Ext N h h4 := (x3.mono hN).trans x4
    rw [add1 _ _ _ i 1 1 rfl (by omega) (by omega)]
    refine loop_2 N Q l hl hll v1 v2 t hv pb rest (i + 1) h4 a v4 c _ g2 (by omega) (by simp; omega) (r.ext xx hv) B4 fun h5 b5 B5 x5 => hq h5 b5 (by simpa using B5) (xx.trans x5)
/-- what the third loop's steps are like -/
def backS (n : Nat) (x : Stp) : Prop := ∃ s, x = ⟨7, [66], 0, n, 0, s⟩ ∧ s.length ≤ 21 ∧ ∀ y ∈ s, y < 256
theorem loop_3 (N : Nat) (Q : V → Hp → Prop) (l : List Nat) (hl : ∀ x ∈ l, x < 256) (hll : l.length ≤ 1000) (v2 : V) (hv : In N v2) (pb : Nat) : ∀ (rest : List Nat) (i : Nat) (h : Hp) (a b c : V) (p : Pat), l.drop i = rest → i ≤ l.length → p.c.length ≤ i → RdB h v2 l → Bld N h pb a b c p →
    (∀ h' c T, Bld N h' pb a b c ⟨p.a, p.b, p.c ++ T⟩ → Ext N h h' → T.length = rest.length → (∀ x ∈ T, ∃ n, n < 256 ∧ backS n x) → L_law17_PatchUndo_3 Q v2 (.ptr pb 0) (.int .i64 l.length) h') → L_law17_PatchUndo_3 Q v2 (.ptr pb 0) (.int .i64 i) h
  | [], i, h, a, b, c, p, hr, hi, hp, r, B, hq => by
    have e : i = l.length := by have := congrArg List.length hr; simp at this; omega
    subst e
    exact hq h c [] (by simpa using B) (Ext.refl _ _) rfl (by simp)
  | n :: rest, i, h, a, b, c, p, hr, hi, hp, r, B, hq => by
    obtain ⟨g1, g2, g3⟩ := drop_get hr
    obtain ⟨p1, i1, l1⟩ := byte_at r hv g1
    have hn := hl n (List.mem_of_getElem? g1)
    have hN : N ≤ h.n := by have := B.lo; have := B.lt; omega
    apply r_law17_PatchUndo_3
    unfold t_law17_PatchUndo_3
    rw [pu_len r s_sl_uint8, pu_lss, pu_cond_d]
    refine ⟨fun _ => ?_, fun h9 => absurd (by omega) h9⟩
    rw [fa_api_Patch_2, Nat.zero_add, B.lc, i1, l1 h (Ext.refl _ _), pu_conv i_uint8 i_int, w64 _ (by omega), pu_call]
    refine (digits_ok i (by omega) h).mono fun v h2 ⟨s, e2, s1, s2, x2⟩ => ?_
    subst e2
    have B2 := B.ext x2
    rw [pu_conv i_uint8 i_int, w64 _ (by omega), same_int, l1 h2 (x2.mono hN), same_int, B2.lc, same_rd B2.oc.rd, pu_build so_api_Step _ (by simp [c1_int, c1_str]) rfl]
    show (Pu EE).bsl h2 _ 1 [(0, .agg (Stp.mk 7 [66] 0 n 0 s).cells)] _
    refine lit_stp _ fun h3 y k3' ry x3 => ?_
    have B3 := B2.ext x3
    have x23 : Ext N h h3 := (x2.mono hN).trans (x3.mono (Nat.le_trans hN x2.n))
    rw [pu_conv i_uint8 i_int, w64 _ (by omega), same_int, l1 h3 x23, same_int, B3.lc, same_rd B3.oc.rd]
    simp only [fa_api_Patch_2, Nat.zero_add]
    refine B3.add_c ⟨7, [66], 0, n, 0, s⟩ ry (by omega) fun h4 v4 B4 x4 => ?_
    have xx : Ext N h h4 := x23.trans x4
    rw [add1 _ _ _ i 1 1 rfl (by omega) (by omega)]
    refine loop_3 N Q l hl hll v2 hv pb rest (i + 1) h4 a b v4 _ g2 (by omega) (by simp; omega) (r.ext xx hv) B4 fun h5 c5 T B5 x5 t1 t2 => hq h5 c5 (⟨7, [66], 0, n, 0, s⟩ :: T) (by simpa using B5) (xx.trans x5) (by simp [t1]) fun x hx => ?_
    rcases List.mem_cons.1 hx with rfl | hx
    · exact ⟨n, hn, s, rfl, s1, s2⟩
    · exact t2 x hx
end
end Go.Proofs.YtpimnaojhaeiiaaGreatDoor.VM
namespace Go.Proofs.YtpimnaojhaeiiaaGreatDoor.VM
open Go
set_option linter.unusedVariables false
noncomputable section
structure Good (x : Stp) : Prop where
  k : x.k < 1000
  s : x.s.length ≤ 100
  a : x.a < 1000
  c : x.c < 1000
  n : x.n < 1000
  t : x.t.length ≤ 100
  sb : ∀ y ∈ x.s, y < 256
  tb : ∀ y ∈ x.t, y < 256
theorem putL_short {n : Nat} (h : n < 1000) : (putL n).length ≤ 2 := by
  by_cases h1 : n < 128
  · rw [putL_small h1]; simp
  · rw [putL_big h1, putL_small (by omega)]; simp
theorem putL_bytes : ∀ (f n : Nat), n < f → ∀ x ∈ putL n, x < 256
  | 0, n, h, _, _ => absurd h (Nat.not_lt_zero _)
  | f + 1, n, h, x, hx => by
    by_cases h1 : n < 128
    · rw [putL_small h1] at hx; simp at hx; omega
    · rw [putL_big h1] at hx
      rcases List.mem_cons.1 hx with rfl | hx
      · omega
      · exact putL_bytes f (n / 128) (by omega) x hx
theorem Good.ok {x : Stp} (g : Good x) : x.ok := by
  have := g.s; have := g.t
  exact ⟨Nat.le_trans (putL_short g.k) (by omega), Nat.le_trans (putL_short (by omega)) (by omega), by omega, Nat.le_trans (putL_short g.a) (by omega), Nat.le_trans (putL_short g.c) (by omega), Nat.le_trans (putL_short g.n) (by omega), Nat.le_trans (putL_short (by omega)) (by omega), by omega⟩
theorem Good.fit {x : Stp} (g : Good x) : x.fit := by
  have := g.k; have := g.s; have := g.a; have := g.c; have := g.n; have := g.t
  exact ⟨by omega, by omega, by omega, by omega, by omega, by omega⟩
theorem Good.bytes {x : Stp} (g : Good x) : ∀ y ∈ putStp x, y < 256 := by
  intro y hy
  simp only [putStp, putT, List.mem_append] at hy
  rcases hy with ((((hy | hy | hy) | hy) | hy) | hy) | hy | hy
  all_goals first | exact putL_bytes _ _ (Nat.lt_succ_self _) y hy | exact g.sb y hy | exact g.tb y hy
structure GoodP (p : Pat) : Prop where
  a : (∀ x ∈ p.a, Good x) ∧ p.a.length ≤ 50
  b : (∀ x ∈ p.b, Good x) ∧ p.b.length ≤ 50
  c : (∀ x ∈ p.c, Good x) ∧ p.c.length ≤ 50
theorem GoodP.ok {p : Pat} (g : GoodP p) : p.ok := by
  have ha := g.a.2; have hb := g.b.2; have hc := g.c.2
  exact ⟨⟨fun x hx => (g.a.1 x hx).ok, by omega, Nat.le_trans (putL_short (by omega)) (by omega)⟩, ⟨fun x hx => (g.b.1 x hx).ok, by omega, Nat.le_trans (putL_short (by omega)) (by omega)⟩, ⟨fun x hx => (g.c.1 x hx).ok, by omega, Nat.le_trans (putL_short (by omega)) (by omega)⟩⟩
theorem GoodP.fit {p : Pat} (g : GoodP p) : p.fit := by
  have ha := g.a.2; have hb := g.b.2; have hc := g.c.2
  exact ⟨⟨fun x hx => (g.a.1 x hx).fit, by omega⟩, ⟨fun x hx => (g.b.1 x hx).fit, by omega⟩, ⟨fun x hx => (g.c.1 x hx).fit, by omega⟩⟩
theorem putSt_bytes {l : List Stp} (h : ∀ x ∈ l, Good x) : ∀ y ∈ putSt l, y < 256 := by
  intro y hy
  rcases List.mem_append.1 hy with hy | hy
  · exact putL_bytes _ _ (Nat.lt_succ_self _) y hy
  · obtain ⟨x, hx, hy⟩ := List.mem_flatMap.1 hy
    exact (h x hx).bytes y hy
theorem GoodP.bytes {p : Pat} (g : GoodP p) : ∀ y ∈ putP p, y < 256 := by
  intro y hy
  rcases List.mem_append.1 hy with hy | hy
  · rcases List.mem_append.1 hy with hy | hy
    · exact putSt_bytes g.a.1 y hy
    · exact putSt_bytes g.b.1 y hy
  · exact putSt_bytes g.c.1 y hy
theorem putSt_len {l : List Stp} (h : ∀ x ∈ l, Good x) (hl : l.length ≤ 50) : (putSt l).length ≤ 200000 := by
  have h1 := flat_len l fun x hx => (h x hx).ok
  have h2 : (putL l.length).length ≤ 2 := putL_short (by omega)
  rw [putSt, List.length_append]
  omega
theorem GoodP.len {p : Pat} (g : GoodP p) : (putP p).length ≤ 600000 := by
  have h1 := putSt_len g.a.1 g.a.2
  have h2 := putSt_len g.b.1 g.b.2
  have h3 := putSt_len g.c.1 g.c.2
  simp only [putP, List.length_append]
  omega
theorem putP_pos (p : Pat) : 0 < (putP p).length := by
  have := putL_pos p.a.length
  simp only [putP, putSt, List.length_append]
  omega
theorem turnK_turn (k : Nat) : turnK (turnK k) = k := by
  unfold turnK
  split
  · rename_i h
    rcases h with rfl | rfl | rfl <;> rfl
  · split
    · rename_i h
      rcases h with rfl | rfl | rfl <;> rfl
    · rfl
theorem turnK_lt {k : Nat} (h : k < 1000) : turnK k < 1000 := by
  unfold turnK
  split
  · omega
  · split <;> omega
theorem turnS_turn (x : Stp) : turnS (turnS x) = x := by simp [turnS, turnK_turn]
theorem undoP_undo (p : Pat) : undoP (undoP p) = p := by
  have : p.a.map (fun x => turnS (turnS x)) = p.a := by simp [turnS_turn]
  simp only [undoP, List.map_reverse, List.reverse_reverse, List.map_map]
  rw [show (turnS ∘ turnS) = fun x => turnS (turnS x) from rfl, this]
theorem GoodP.undo {p : Pat} (g : GoodP p) : GoodP (undoP p) := by
  refine ⟨⟨fun x hx => ?_, by simp [undoP, g.a.2]⟩, g.c, g.b⟩
  simp only [undoP, List.mem_reverse, List.mem_map] at hx
  obtain ⟨y, hy, rfl⟩ := hx
  have := g.a.1 y hy
  exact ⟨turnK_lt this.k, this.s, this.a, this.c, this.n, this.t, this.sb, this.tb⟩
/-! ### boxes -/
structure Bx (h : Hp) (b : Nat) (x y z : V) (p : Pat) : Prop where
  get : h.t.get b = some (.cells [x, y, z] 26 false)
  rd : RdP h.n h (.agg [x, y, z]) p
  lt : b < h.n
theorem RdP.mono {N M : Nat} {h : Hp} {v : V} {p : Pat} (r : RdP N h v p) (hm : N ≤ M) : RdP M h v p := by
  obtain ⟨a, b, c, h1, h2, h3, h4, h5, h6, h7⟩ := r.out
  exact ⟨a, b, c, h1, h2, h3, h4, h5.mono hm, h6.mono hm, h7.mono hm⟩
theorem Bx.ext {h h' : Hp} {b : Nat} {x y z : V} {p : Pat} (B : Bx h b x y z p) (e : Ext h.n h h') : Bx h' b x y z p :=
  ⟨(e.old b B.lt).trans B.get, (B.rd.ext e (Nat.le_refl _)).mono e.n, Nat.lt_of_lt_of_le B.lt e.n⟩
theorem Bld.bx {N : Nat} {h : Hp} {pb : Nat} {a b c : V} {p : Pat} (B : Bld N h pb a b c p) : Bx h pb a b c p := ⟨B.get, B.rdP, B.lt⟩
theorem Bx.ld {h : Hp} {b : Nat} {x y z : V} {p : Pat} (B : Bx h b x y z p) (q : V → Prop) : (Pu EE).load h 26 (.ptr b 0) q ↔ q (.agg [x, y, z]) := pu_loadS l_api_Patch B.get (l := [x, y, z]) rfl q
theorem Bx.l0 {h : Hp} {b : Nat} {x y z : V} {p : Pat} (B : Bx h b x y z p) (q : V → Prop) : (Pu EE).load h 24 (.ptr b 0) q ↔ q x := pu_load1 l_sl_api_Step B.get (v := x) rfl q
theorem Bx.l1 {h : Hp} {b : Nat} {x y z : V} {p : Pat} (B : Bx h b x y z p) (q : V → Prop) : (Pu EE).load h 24 (.ptr b 1) q ↔ q y := pu_load1 l_sl_api_Step B.get (v := y) rfl q
theorem Bx.l2 {h : Hp} {b : Nat} {x y z : V} {p : Pat} (B : Bx h b x y z p) (q : V → Prop) : (Pu EE).load h 24 (.ptr b 2) q ↔ q z := pu_load1 l_sl_api_Step B.get (v := z) rfl q
theorem Bx.parts {h : Hp} {b : Nat} {x y z : V} {p : Pat} (B : Bx h b x y z p) : RdS h x p.a ∧ RdS h y p.b ∧ RdS h z p.c := by
  obtain ⟨a, b, c, h1, h2, h3, h4, _⟩ := B.rd.out
  cases h1
  exact ⟨h2, h3, h4⟩
theorem Bx.same {h : Hp} {b : Nat} {x y z : V} {p : Pat} (B : Bx h b x y z p) (P : Prop) : (Pu EE).same (.agg [x, y, z]) (.agg [x, y, z]) P ↔ P := by
  obtain ⟨h1, h2, h3⟩ := B.parts
  show (sameV (.agg [x, y, z]) (.agg [x, y, z]) = true ∧ P) ↔ P
  have : sameV (.agg [x, y, z]) (.agg [x, y, z]) = true := by simp only [sameV, sameL, h1.same.1, h2.same.1, h3.same.1, cond_true]
  simp [this]
theorem new_bx {h : Hp} {u : V} {p : Pat} (r : RdP h.n h u p) {q : V → Hp → Prop} (hq : ∀ h' b x y z, Bx h' b x y z p → Ext h.n h h' → q (.ptr b 0) h') :
    (Pu EE).alloc h 26 fun x h1 _ => (Pu EE).store h1 26 x u fun h2 => q x h2 := by
  obtain ⟨x, y, z, rfl, h2, h3, h4, h5, h6, h7⟩ := r.out
  refine pu_allocX l_api_Patch fun h1 b1 w1 => ?_
  refine pu_storeX l_api_Patch w1.at_ (x := .agg [x, y, z]) rfl (by show allCells [x, y, z] = true; simp only [allCells, h2.c1.2, h3.c1.2, h4.c1.2, cond_true]) (r := [x, y, z]) rfl fun h2' w2 => ?_
  have hb : h.n ≤ b1 := by rw [w1.b]; exact Nat.le_refl _
  have e : Ext h.n h h2' := (w1.ext (Nat.le_refl _)).trans (w2.ext hb)
  exact hq h2' b1 x y z ⟨w2.at_, (r.ext e (Nat.le_refl _)).mono e.n, by rw [w2.n, w1.n, w1.b]; omega⟩ e
theorem Own.rdF {N : Nat} {h : Hp} {v : V} {l : List Nat} (o : OwnB N h v l) (hb : ∀ x ∈ l, x < 256) (hl : l.length ≤ 1000000) : RdF h v l :=
  ⟨o.rd, o.fits.1, o.fits.2, hb, hl⟩
theorem put_get {h : Hp} {v : V} {p : Pat} (r : RdP h.n h v p) (g : GoodP p) {q : V → Hp → Prop} (hq : ∀ h' u, RdP h'.n h' u p → Ext h.n h h' → q (.tup [u, .bool true]) h') :
    (Pu EE).call 9 [v] h fun y h1 => (Pu EE).call 8 [y] h1 q := by
  rw [pu_call]
  refine (Put_ok p g.ok v h r).mono fun y h1 ⟨o, x1⟩ => ?_
  rw [pu_call]
  refine (Get_ok (putP p) y h1 o.in_ (o.rdF g.bytes (by have := g.len; omega))).mono fun w h2 ⟨e, x2⟩ => ?_
  rw [getR_put p g.fit] at e
  obtain ⟨u, rfl, ru⟩ := e
  exact hq h2 u ru (x1.trans (x2.mono x1.n))
end
end Go.Proofs.YtpimnaojhaeiiaaGreatDoor.VM
namespace Go.Proofs.YtpimnaojhaeiiaaGreatDoor.VM
open Go
set_option linter.unusedVariables false
set_option linter.unusedSimpArgs false
noncomputable section
theorem tail (Q : V → Hp → Prop) (l : List Nat) (hll : l.length ≤ 1000) (N : Nat) (v2 : V) (pb : Nat) (h : Hp) (a b c : V) (p : Pat) (r : RdB h v2 l) (B : Bld N h pb a b c p) (g : GoodP p) (hq : ∀ h', Q (.bool true) h') : L_law17_PatchUndo_3 Q v2 (.ptr pb 0) (.int .i64 l.length) h := by
  have gu := g.undo
  have ha := g.a.2; have hb := g.b.2; have hc := g.c.2
  have ua := gu.a.2; have ub := gu.b.2; have uc := gu.c.2
  apply r_law17_PatchUndo_3
  unfold t_law17_PatchUndo_3
  rw [pu_len r s_sl_uint8, pu_lss, pu_cond_d]
  refine ⟨fun h9 => absurd h9 (by omega), fun _ => ?_⟩
  have B0 := B.bx
  rw [B0.ld, pu_call]
  refine (undo_ok p _ h B0.rd (by omega)).mono fun u1 h1 ⟨r1, e1⟩ => ?_
  refine new_bx r1 fun h2 q x y z U2 e2 => ?_
  have P2 := B0.ext (e1.trans (e2.mono e1.n))
  rw [P2.ld]
  refine put_get P2.rd g fun h3 u3 r3 e3 => ?_
  have P3 := P2.ext e3
  have U3 := U2.ext e3
  rw [pu_extr0, pu_extr1]
  refine new_bx r3 fun h4 xb x1 y1 z1 X4 e4 => ?_
  have P4 := P3.ext e4
  have U4 := U3.ext e4
  rw [U4.ld]
  refine put_get U4.rd gu fun h5 u5 r5 e5 => ?_
  have P5 := P4.ext e5
  have U5 := U4.ext e5
  have X5 := X4.ext e5
  rw [pu_extr0, pu_extr1]
  refine new_bx r5 fun h6 yb x2 y2 z2 Y6 e6 => ?_
  have P6 := P5.ext e6
  have U6 := U5.ext e6
  have X6 := X5.ext e6
  rw [P6.ld, pu_call]
  refine (Put_ok p g.ok _ h6 P6.rd).mono fun w h7 ⟨o7, e7⟩ => ?_
  have P7 := P6.ext e7
  have U7 := U6.ext e7
  have X7 := X6.ext e7
  have Y7 := Y6.ext e7
  have hpos := putP_pos p
  have hlen := g.len
  rw [pu_len o7.rd s_sl_uint8, pu_eql, pu_cond_d]
  refine ⟨fun h9 => absurd h9 (by omega), fun _ => ?_⟩
  rw [pu_len o7.rd s_sl_uint8, pu_sub, show IntKind.i64.wrap (((putP p).length : Int) - 1) = (((putP p).length - 1 : Nat) : Int) by rw [show ((putP p).length : Int) - 1 = (((putP p).length - 1 : Nat) : Int) by omega]; exact w64 _ (by omega)]
  obtain ⟨s, s1, s2, s3, s4, s5⟩ := cut_sub o7.rd o7.fits.1 s_sl_uint8 l_uint8 o7.fits.2 (lo := none) (hi := some (.int .i64 (((putP p).length - 1 : Nat) : Int))) (a := 0) (b := (putP p).length - 1) (by omega) (by omega) fun cap hcap => bounds_to _ _ cap _ (by omega)
  rw [s1, pu_call]
  have hdl : (putP p).dropLast = (putP p).take ((putP p).length - 1) := List.dropLast_eq_take
  have hdn : (putP p).dropLast.length = (putP p).length - 1 := by simp
  have rs : RdF h7 s (putP p).dropLast := by
    refine ⟨?_, ?_, s5, fun x hx => g.bytes x (List.dropLast_subset _ hx), by omega⟩
    · show Rd h7 1 s (putP p).dropLast.length ((putP p).dropLast.map vB)
      rw [hdn, hdl, List.map_take]
      simpa using s2
    · rw [hdn]; simpa using s4
  refine (Get_ok _ s h7 (fun c hc => o7.in_ c (s3 c hc)) rs).mono fun w8 h8 ⟨g8, e8⟩ => ?_
  rw [getR_cut p g.fit] at g8
  obtain ⟨u8, rfl, r8⟩ := g8
  have P8 := P7.ext e8
  have U8 := U7.ext e8
  have X8 := X7.ext e8
  have Y8 := Y7.ext e8
  rw [pu_extr0, pu_extr1]
  refine new_bx r8 fun h9 zb x3 y3 z3 Z9 e9 => ?_
  have P9 := P8.ext e9
  have U9 := U8.ext e9
  have X9 := X8.ext e9
  have Y9 := Y8.ext e9
  rw [U9.ld, P9.ld, pu_call]
  refine (undo_ok (undoP p) _ h9 U9.rd (by omega)).mono fun u10 h10 ⟨r10, e10⟩ => ?_
  rw [undoP_undo] at r10
  have P10 := P9.ext e10
  have U10 := U9.ext e10
  have X10 := X9.ext e10
  have Y10 := Y9.ext e10
  rw [P10.ld, P10.same, pu_call]
  refine (samePatch_ok p p _ _ h10 r10 P10.rd (by omega) (by omega)).mono fun k11 h11 ⟨i11, e11⟩ => ?_
  rw [decide_eq_true (by simp)] at i11
  subst i11
  have P11 := P10.ext e11
  have U11 := U10.ext e11
  have X11 := X10.ext e11
  have Y11 := Y10.ext e11
  simp only [pu_gval_y, pu_geff_y, fa_api_Patch_0, fa_api_Patch_1, fa_api_Patch_2, Nat.zero_add, Nat.add_zero]
  rw [U11.l0, pu_len U11.parts.1 s_sl_api_Step, P11.l0, pu_len P11.parts.1 s_sl_api_Step, pu_eql, show decide (((undoP p).a.length : Int) = (p.a.length : Int)) = true by simp [undoP], pu_pick_t]
  simp only [pu_gval_y, pu_geff_y, fa_api_Patch_0, fa_api_Patch_1, fa_api_Patch_2, Nat.zero_add, Nat.add_zero]
  rw [U11.l1, P11.l2, pu_call]
  refine (same_ok p.c p.c _ _ h11 U11.parts.2.1 P11.parts.2.2 (by omega) (by omega)).mono fun k12 h12 ⟨i12, e12⟩ => ?_
  rw [decide_eq_true rfl] at i12
  subst i12
  subst e12
  rw [pu_pick_t]
  simp only [pu_gval_y, pu_geff_y, fa_api_Patch_0, fa_api_Patch_1, fa_api_Patch_2, Nat.zero_add, Nat.add_zero]
  rw [U11.l2, P11.l1, pu_call]
  refine (same_ok p.b p.b _ _ h12 U11.parts.2.2 P11.parts.2.1 (by omega) (by omega)).mono fun k13 h13 ⟨i13, e13⟩ => ?_
  rw [decide_eq_true rfl] at i13
  subst i13
  subst e13
  rw [pu_pick_t]
  simp only [pu_gval_y, pu_geff_y]
  rw [pu_pick_t]
  simp only [pu_gval_y, pu_geff_y]
  rw [X11.ld, P11.ld, pu_call]
  refine (samePatch_ok p p _ _ h13 X11.rd P11.rd (by omega) (by omega)).mono fun k14 h14 ⟨i14, e14⟩ => ?_
  rw [decide_eq_true (by simp)] at i14
  subst i14
  have U14 := U11.ext e14
  have Y14 := Y11.ext e14
  rw [pu_pick_t]
  simp only [pu_gval_y, pu_geff_y]
  rw [pu_pick_t]
  simp only [pu_gval_y, pu_geff_y]
  rw [Y14.ld, U14.ld, pu_call]
  refine (samePatch_ok (undoP p) (undoP p) _ _ h14 Y14.rd U14.rd (by omega) (by omega)).mono fun k15 h15 ⟨i15, e15⟩ => ?_
  rw [decide_eq_true (by simp)] at i15
  subst i15
  rw [pu_pick_t]
  simp only [pu_gval_y, pu_geff_y, pu_not, Bool.not_false]
  rw [pu_pick_t]
  simp only [pu_gval_y, pu_geff_y]
  rw [pu_call]
  refine (awake_ok h15).mono fun k16 h16 ⟨i16, e16⟩ => ?_
  subst i16
  rw [pu_pick_t]
  exact hq h16
theorem patchUndo_ok (l0 l1 l2 t : List Nat) (hl0 : ∀ x ∈ l0, x < 256) (hl1 : ∀ x ∈ l1, x < 256) (hl2 : ∀ x ∈ l2, x < 256) (ht : ∀ x ∈ t, x < 256) (v0 v1 v2 : V) (h : Hp) (r0 : RdB h v0 l0) (r1 : RdB h v1 l1) (r2 : RdB h v2 l2) (i0 : In h.n v0) (i1 : In h.n v1) (i2 : In h.n v2) :
    Ans EE 3 [v0, v1, v2, .str t] h fun v _ => v = .bool true := by
  apply a_law17_PatchUndo
  unfold t_law17_PatchUndo_0
  have aw : ∀ P : Prop, P → P := fun _ h => h
  have awk : ((Pu EE).call 4 [] h fun v h' => (fun v _ => v = V.bool true) v h') := by
    rw [pu_call]
    exact (awake_ok h).mono fun v h' e => e.1
  rw [pu_len r0 s_sl_uint8, pu_gtr]
  by_cases c0 : ((40 : Int) < l0.length)
  · rw [decide_eq_true (show (l0.length : Int) > 40 by omega)]
    simp only [pu_gval_tf, pu_pick_t]
    rw [pu_cond_t]
    exact awk
  rw [decide_eq_false (show ¬ (l0.length : Int) > 40 by omega)]
  simp only [pu_gval_y, pu_pick_f]
  rw [pu_len r1 s_sl_uint8, pu_gtr]
  by_cases c1 : ((40 : Int) < l1.length)
  · rw [decide_eq_true (show (l1.length : Int) > 40 by omega)]
    simp only [pu_gval_tf, pu_pick_t, pu_pick_f]
    rw [pu_cond_t]
    exact awk
  rw [decide_eq_false (show ¬ (l1.length : Int) > 40 by omega)]
  simp only [pu_gval_y, pu_pick_f]
  rw [pu_len r2 s_sl_uint8, pu_gtr]
  by_cases c2 : ((40 : Int) < l2.length)
  · rw [decide_eq_true (show (l2.length : Int) > 40 by omega)]
    simp only [pu_gval_tf, pu_pick_t, pu_pick_f]
    rw [pu_cond_t]
    exact awk
  rw [decide_eq_false (show ¬ (l2.length : Int) > 40 by omega)]
  simp only [pu_gval_y, pu_pick_f]
  rw [pu_strlen, pu_gtr]
  by_cases c3 : ((100 : Int) < t.length)
  · rw [decide_eq_true (show (t.length : Int) > 100 by omega)]
    rw [pu_cond_t]
    exact awk
  rw [decide_eq_false (show ¬ (t.length : Int) > 100 by omega)]
  rw [pu_cond_f]
  refine pu_allocX l_api_Patch fun h1 b1 w1 => ?_
  have e1 : Ext h.n h h1 := w1.ext (Nat.le_refl _)
  have B : Bld h.n h1 b1 .nils .nils .nils ⟨[], [], []⟩ := ⟨w1.at_, Own.nil _ _ _ _, Own.nil _ _ _ _, Own.nil _ _ _ _, fun _ h => (by cases h), fun _ h => (by cases h), fun _ h => (by cases h), fun h => (by cases h), fun h => (by cases h), fun h => (by cases h), by rw [w1.b]; exact Nat.le_refl _, by rw [w1.b, w1.n]; omega⟩
  refine loop_1 h.n _ l0 hl0 (by omega) v0 v1 v2 (.str t) i0 b1 l0 0 h1 _ _ _ _ (by simp) (by omega) (by simp) (r0.ext e1 i0) B fun h2 a B2 e2 => ?_
  refine loop_2 h.n _ l1 hl1 (by omega) v1 v2 t i1 b1 l1 0 h2 _ _ _ _ (by simp) (by omega) (by simp) (r1.ext (e1.trans e2) i1) B2 fun h3 b B3 e3 => ?_
  refine loop_3 h.n _ l2 hl2 (by omega) v2 i2 b1 l2 0 h3 _ _ _ _ (by simp) (by omega) (by simp) (r2.ext (e1.trans (e2.trans e3)) i2) B3 fun h4 c T B4 e4 T1 T2 => ?_
  refine tail _ l2 (by omega) h.n v2 b1 h4 a b c _ (r2.ext (e1.trans (e2.trans (e3.trans e4))) i2) B4 ⟨⟨?_, ?_⟩, ⟨?_, ?_⟩, ⟨?_, ?_⟩⟩ fun h' => rfl
  · have : ∀ l : List Nat, (∀ x ∈ l, x < 256) → ∀ x ∈ shapeL l, Good x := by
      intro l
      induction l using shapeL.induct with
      | case1 n m r ih =>
        intro hl x hx
        rcases List.mem_cons.1 hx with rfl | hx
        · have hn := hl n (by simp)
          have hm := hl m (by simp)
          unfold stepS
          split
          · exact ⟨by simp; omega, by simp, by simp, by simp; omega, by simp; omega, by simp, by simp; omega, by simp⟩
          · exact ⟨by simp; omega, by simp, by simp; omega, by simp, by simp, by simp, by simp; omega, by simp⟩
        · exact ih (fun y hy => hl y (by simp [hy])) x hx
      | case2 l hl2 =>
        intro hl x hx
        unfold shapeL at hx
        split at hx
        · exact absurd rfl (hl2 _ _ _)
        · cases hx
    simpa using this l0 hl0
  · have := shapeL_len l0
    simp; omega
  · intro x hx
    simp only [List.nil_append, List.mem_map] at hx
    obtain ⟨n, hn, rfl⟩ := hx
    have := hl1 n hn
    exact ⟨by simp [setS], by simp [setS], by simp [setS]; omega, by simp [setS], by simp [setS], by simp only [setS]; omega, by simp [setS], by simpa [setS] using ht⟩
  · simp; omega
  · intro x hx
    simp only [List.nil_append] at hx
    obtain ⟨n, hn, s, rfl, s1, s2⟩ := T2 x hx
    exact ⟨by simp, by simp, by simp, by simp; omega, by simp, by simp only; omega, by simp, by simpa using s2⟩
  · simp; omega
end
end Go.Proofs.YtpimnaojhaeiiaaGreatDoor.VM
