/- Laws for the conditions of labels: boxes, structs. No program in sight. · The machine of PatchUndo's labels: awake is known, patch.Undo stands for itself. · The conditions' laws at this program. · What labels of functions ask for. Written by pe.py. · Facts of types. Written by tyfacts.py. · code.Put, by labels. · What labels of functions ask for. Written by pe.py. · What labels of functions ask for. Written by pe.py. -/
import Derived.Test.YtpimnaojhaeiiaaGreatDoorMg4
namespace Go.Proofs.YtpimnaojhaeiiaaGreatDoor.VM
open Go
noncomputable section
variable {E : Env}
theorem fa_of {t b o f : Nat} {p : V} (h : vfieldAddr E t (.ptr b o) f = some p) (q : V → Prop) : (Pu E).faddr t (.ptr b o) f q ↔ q p := by
  show (∃ v, vfieldAddr E t (.ptr b o) f = some v ∧ q v) ↔ _
  rw [h, ex_some]
theorem fi_of {t f : Nat} {x y : V} (h : vfield E t x f = some y) (q : V → Prop) : (Pu E).field t x f q ↔ q y := by
  show (∃ v, vfield E t x f = some v ∧ q v) ↔ _
  rw [h, ex_some]
def StructOf (E : Env) (t : Nat) (pl : List (Nat × Nat)) (z : List V) : Prop := ∃ i fs, E.ty.get t = some i ∧ i.zero = some z ∧ i.k = .struct fs ∧ sizesOf E fs = some pl
theorem structOf {t : Nat} {pl : List (Nat × Nat)} {z : List V} (h : ((E.ty.get t).bind fun i => match i.k with | .struct fs => (sizesOf E fs).bind fun pl => i.zero.map fun z => (pl, z) | _ => none) = some (pl, z)) : StructOf E t pl z := by
  rw [Option.bind_eq_some_iff] at h
  obtain ⟨i, h1, h2⟩ := h
  split at h2
  · rename_i fs hk
    rw [Option.bind_eq_some_iff] at h2
    obtain ⟨p, h3, h4⟩ := h2
    rw [Option.map_eq_some_iff] at h4
    obtain ⟨z', h5, h6⟩ := h4
    cases h6
    exact ⟨i, fs, h1, h5, hk, h3⟩
  · cases h2
/-- one cell, no struct -/
def C1 (v : V) : Prop := v.cells = [v] ∧ v.isCell = true
theorem c1_int (k : IntKind) (n : Int) : C1 (.int k n) := ⟨rfl, rfl⟩
theorem c1_str (s : List Nat) : C1 (.str s) := ⟨rfl, rfl⟩
theorem c1_bool (b : Bool) : C1 (.bool b) := ⟨rfl, rfl⟩
theorem Rd.c1 {h : Hp} {sz : Nat} {v : V} {len : Nat} {cs : List V} (r : Rd h sz v len cs) : C1 v := by
  rcases r.at_ with ⟨rfl | rfl, _⟩ | ⟨b, off, vs, _, _, ⟨c, rfl⟩ | ⟨lo, z, rfl⟩⟩ <;> exact ⟨rfl, rfl⟩
theorem spl_one : ∀ (cs : List V) (o : Nat) (v : V), o < cs.length → spl cs o [v] = some (cs.set o v)
  | [], _, _, h => by simp at h
  | c :: cs, 0, v, _ => by cases cs <;> simp [spl]
  | c :: cs, o + 1, v, h => by simp only [spl, spl_one cs o v (by simpa using h), Option.bind_some, List.set_cons_succ]
def setAll (pl : List (Nat × Nat)) : List V → List (Nat × V) → List V
  | cs, [] => cs
  | cs, (i, v) :: r => setAll pl (cs.set ((pl[i]?).getD (0, 0)).1 v) r
def placesOK (pl : List (Nat × Nat)) (n : Nat) : List (Nat × V) → Bool
  | [] => true
  | (i, _) :: r => match pl[i]? with
    | some (o, s) => Nat.beq s 1 && Nat.blt o n && placesOK pl n r
    | none => false
theorem fill_cells (pl : List (Nat × Nat)) : ∀ (ps : List (Nat × V)) (cs : List V), (∀ p ∈ ps, C1 p.2) → placesOK pl cs.length ps = true → fillV pl cs ps = some (setAll pl cs ps)
  | [], cs, _, _ => by simp [fillV, setAll]
  | (i, v) :: r, cs, hc, hp => by
    rw [placesOK] at hp
    split at hp
    · rename_i o s hi
      simp only [Bool.and_eq_true] at hp
      obtain ⟨⟨h1, h2⟩, h3⟩ := hp
      obtain rfl := Nat.eq_of_beq_eq_true h1
      have ho : o < cs.length := by simpa [Nat.blt_eq] using h2
      have hv := (hc (i, v) (by simp)).1
      have hcells : v.cells = [v] := hv
      have hb : (Nat.beq v.cells.length 1 && Nat.ble (o + 1) cs.length) = true := by rw [hcells]; simp; omega
      rw [fillV, hi, Option.bind_some]
      simp only [hb, cond_true]
      rw [hcells, spl_one cs o v ho, Option.bind_some, setAll, hi, Option.getD_some]
      exact fill_cells pl r _ (fun p hp => hc p (by simp [hp])) (by rw [List.length_set]; exact h3)
    · cases hp
theorem pu_build {t : Nat} {pl : List (Nat × Nat)} {z : List V} (ht : StructOf E t pl z) (ps : List (Nat × V)) (hc : ∀ p ∈ ps, C1 p.2) (hp : placesOK pl z.length ps = true) (q : V → Prop) : (Pu E).build t ps q ↔ q (.agg (setAll pl z ps)) := by
  obtain ⟨i, fs, h1, h2, h3, h4⟩ := ht
  show (∃ v, vbuild E t ps = some v ∧ q v) ↔ _
  have : vbuild E t ps = some (.agg (setAll pl z ps)) := by
    simp only [vbuild, h1, Option.bind_some, h2, h3, h4, fill_cells pl ps z hc hp]
  rw [this, ex_some]
/-! ### boxes -/
theorem pu_alloc {e sz : Nat} {z : List V} {ag : Bool} (he : El E e sz z ag) (h : Hp) (q : V → Hp → Blk → Prop) : (Pu E).alloc h e q ↔ q (.ptr h.n 0) (h.new (.cells z e false)) (.cells z e false) := by
  obtain ⟨⟨j, h5, h6, h7, h8, _⟩, h9⟩ := he
  show (∃ x, fAlloc E e = some x ∧ q (x.1.at h.n) (h.new x.2) x.2) ↔ _
  have : fAlloc E e = some (.ptr, .cells z e false) := by simp only [fAlloc, h5, Option.bind_some, h7, newCells]
  rw [this]; simp [Fr.at]
theorem pu_box {e : Nat} {x : V} (hx : allCells x.cells = true) (h : Hp) (q : V → Hp → Blk → Prop) : (Pu E).box h e x q ↔ q (.ptr h.n 0) (h.new (.cells x.cells e false)) (.cells x.cells e false) := by
  show (∃ y, boxV e x = some y ∧ q (y.1.at h.n) (h.new y.2) y.2) ↔ _
  have : boxV e x = some (.ptr, .cells x.cells e false) := by simp only [boxV, hx, cond_true, newCells]
  rw [this]; simp [Fr.at]
theorem rdCells_of {h : Hp} {b e : Nat} {vs : List V} {ro : Bool} (hg : h.t.get b = some (.cells vs e ro)) : rdCells h b = some vs := by unfold rdCells; rw [hg]
/-- a cell of a block -/
theorem pu_load1 {e : Nat} {z : List V} (he : El E e 1 z false) {h : Hp} {b o f : Nat} {vs : List V} {ro : Bool} (hg : h.t.get b = some (.cells vs f ro)) {v : V} (hv : vs[o]? = some v) (q : V → Prop) : (Pu E).load h e (.ptr b o) q ↔ q v := by
  obtain ⟨⟨j, h3, h4, h5, h6, h7⟩, h8⟩ := he
  show (∃ u, vload E h e (.ptr b o) = some u ∧ q u) ↔ _
  have : vload E h e (.ptr b o) = some v := by
    simp only [vload, rdCells_of hg, Option.bind_some, partV, h3]
    split at h7 <;> first | (cases h7; done) | skip
    rename_i g1 g2
    split
    · exact absurd ‹_› (g1 _)
    · exact absurd ‹_› (g2 _ _)
    · exact hv
  rw [this, ex_some]
/-- a struct of a block -/
theorem pu_loadS {e sz : Nat} {z : List V} (he : El E e sz z true) {h : Hp} {b o f : Nat} {vs : List V} {ro : Bool} (hg : h.t.get b = some (.cells vs f ro)) {l : List V} (hv : sub vs o sz = some l) (q : V → Prop) : (Pu E).load h e (.ptr b o) q ↔ q (.agg l) := by
  obtain ⟨⟨j, h3, h4, h5, h6, h7⟩, h8⟩ := he
  subst h4
  show (∃ u, vload E h e (.ptr b o) = some u ∧ q u) ↔ _
  have : vload E h e (.ptr b o) = some (.agg l) := by
    simp only [vload, rdCells_of hg, Option.bind_some, partV, h3]
    split at h7 <;> first | (cases h7; done) | skip
    · rename_i fs hk
      rw [hk]; simp only [hv, Option.bind_some]
    · rename_i m e' hk
      rw [hk]; simp only [hv, Option.bind_some]
  rw [this, ex_some]
theorem pu_store {e sz : Nat} {z : List V} {ag : Bool} (he : El E e sz z ag) {h : Hp} {b o f : Nat} {vs : List V} (hg : h.t.get b = some (.cells vs f false)) {x : V} (hx : x.cells.length = sz) (hc : allCells x.cells = true) {r : List V} (hr : spl vs o x.cells = some r) (q : Hp → Prop) : (Pu E).store h e (.ptr b o) x q ↔ q (h.set b (.cells r f false)) := by
  obtain ⟨⟨j, h3, h4, h5, h6, h7⟩, h8⟩ := he
  subst h4
  show (∃ u, vstore E h e (.ptr b o) x = some u ∧ q u) ↔ _
  have : vstore E h e (.ptr b o) x = some (h.set b (.cells r f false)) := by
    have hb : Nat.beq x.cells.length j.size = true := by rw [hx]; exact Nat.beq_refl _
    simp only [vstore, h3, Option.bind_some, hb, cond_true, wrCells, hg, hc, hr]
  rw [this, ex_some]
theorem pu_nilc (b o : Nat) (q : V → Prop) : (Pu E).nilc (.ptr b o) q ↔ q (.ptr b o) := by
  show (∃ v, nilCheckV (.ptr b o) = some v ∧ q v) ↔ _
  simp only [nilCheckV, ex_some]
theorem pu_extr {i : Nat} {l : List V} {v : V} (h : l[i]? = some v) (q : V → Prop) : (Pu E).extr (.tup l) i q ↔ q v := by
  show (∃ u, extractV i (.tup l) = some u ∧ q u) ↔ _
  rw [extractV, h, ex_some]
theorem pu_extr0 (x : V) (l : List V) (q : V → Prop) : (Pu E).extr (.tup (x :: l)) 0 q ↔ q x := pu_extr rfl q
theorem pu_extr1 (x y : V) (l : List V) (q : V → Prop) : (Pu E).extr (.tup (x :: y :: l)) 1 q ↔ q y := pu_extr rfl q
theorem pu_extr2 (x y z : V) (l : List V) (q : V → Prop) : (Pu E).extr (.tup (x :: y :: z :: l)) 2 q ↔ q z := pu_extr rfl q
theorem pu_gval_y (w : Bool) (f : (V → Prop) → Prop) (k : V → Prop) : (Pu E).gval (.bool w) w f k ↔ f k := by
  show (∃ c, wantV (.bool w) w = some c ∧ (c = true → f k) ∧ (c = false → k undefV)) ↔ _
  simp [wantV]
theorem pu_gval_n (w : Bool) (f : (V → Prop) → Prop) (k : V → Prop) : (Pu E).gval (.bool (!w)) w f k ↔ k undefV := by
  show (∃ c, wantV (.bool (!w)) w = some c ∧ (c = true → f k) ∧ (c = false → k undefV)) ↔ _
  cases w <;> simp [wantV]
theorem pu_gval_tf (f : (V → Prop) → Prop) (k : V → Prop) : (Pu E).gval (.bool true) false f k ↔ k undefV := pu_gval_n false f k
theorem pu_gval_ft (f : (V → Prop) → Prop) (k : V → Prop) : (Pu E).gval (.bool false) true f k ↔ k undefV := pu_gval_n true f k
theorem pu_geff_y (w : Bool) (f : (V → Hp → Prop) → Prop) (h : Hp) (k : V → Hp → Prop) : (Pu E).geff (.bool w) w f h k ↔ f k := by
  show (∃ c, wantV (.bool w) w = some c ∧ (c = true → f k) ∧ (c = false → k undefV h)) ↔ _
  simp [wantV]
theorem pu_geff_tf (f : (V → Hp → Prop) → Prop) (h : Hp) (k : V → Hp → Prop) : (Pu E).geff (.bool true) false f h k ↔ k undefV h := by
  show (∃ c, wantV (.bool true) false = some c ∧ (c = true → f k) ∧ (c = false → k undefV h)) ↔ _
  simp [wantV]
theorem pu_geff_ft (f : (V → Hp → Prop) → Prop) (h : Hp) (k : V → Hp → Prop) : (Pu E).geff (.bool false) true f h k ↔ k undefV h := by
  show (∃ c, wantV (.bool false) true = some c ∧ (c = true → f k) ∧ (c = false → k undefV h)) ↔ _
  simp [wantV]
theorem pu_pick_t (a : V) (b : Option V) (q : V → Prop) : (Pu E).pick (.bool true) (some a) b q ↔ q a := by
  show (∃ x, V.bool true = .bool x ∧ ∃ v, (bif x then some a else b) = some v ∧ q v) ↔ _
  exact ⟨fun ⟨x, h1, v, h2, h3⟩ => by cases h1; cases h2; exact h3, fun h => ⟨true, rfl, a, rfl, h⟩⟩
theorem pu_pick_f (a : Option V) (b : V) (q : V → Prop) : (Pu E).pick (.bool false) a (some b) q ↔ q b := by
  show (∃ x, V.bool false = .bool x ∧ ∃ v, (bif x then a else some b) = some v ∧ q v) ↔ _
  exact ⟨fun ⟨x, h1, v, h2, h3⟩ => by cases h1; cases h2; exact h3, fun h => ⟨false, rfl, b, rfl, h⟩⟩
/-- a new block, and nothing else -/
structure New (h h1 : Hp) (b : Nat) (k : Blk) : Prop where
  at_ : h1.t.get b = some k
  n : h1.n = h.n + 1
  b : b = h.n
  old : ∀ c, c < h.n → h1.t.get c = h.t.get c
theorem New.mk' (h : Hp) (k : Blk) : New h (h.new k) h.n k := ⟨by rw [Hp.get_new, if_pos rfl], rfl, rfl, fun c hc => by rw [Hp.get_new, if_neg (by omega)]⟩
theorem New.ext {h h1 : Hp} {b : Nat} {k : Blk} (w : New h h1 b k) {N : Nat} (hN : N ≤ h.n) : Ext N h h1 := ⟨by rw [w.n]; omega, fun c hc => w.old c (by omega)⟩
theorem pu_allocX {e sz : Nat} {z : List V} {ag : Bool} (he : El E e sz z ag) {h : Hp} {q : V → Hp → Blk → Prop} (hq : ∀ h1 b, New h h1 b (.cells z e false) → q (.ptr b 0) h1 (.cells z e false)) : (Pu E).alloc h e q :=
  (pu_alloc he h q).2 (hq _ _ (New.mk' _ _))
theorem pu_boxX {e : Nat} {cs : List V} (hc : allCells cs = true) {h : Hp} {q : V → Hp → Blk → Prop} (hq : ∀ h1 b, New h h1 b (.cells cs e false) → q (.ptr b 0) h1 (.cells cs e false)) : (Pu E).box h e (.agg cs) q :=
  (pu_box (x := .agg cs) hc h q).2 (hq _ _ (New.mk' _ _))
/-- one block is written -/
structure Wr (h h1 : Hp) (b : Nat) (k : Blk) : Prop where
  at_ : h1.t.get b = some k
  n : h1.n = h.n
  other : ∀ c, c ≠ b → h1.t.get c = h.t.get c
theorem Wr.ext {h h1 : Hp} {b : Nat} {k : Blk} (w : Wr h h1 b k) {N : Nat} (hN : N ≤ b) : Ext N h h1 := ⟨by rw [w.n]; exact Nat.le_refl _, fun c hc => w.other c (by omega)⟩
theorem pu_storeX {e sz : Nat} {z : List V} {ag : Bool} (he : El E e sz z ag) {h : Hp} {b o f : Nat} {vs : List V} (hg : h.t.get b = some (.cells vs f false)) {x : V} (hx : x.cells.length = sz) (hc : allCells x.cells = true) {r : List V} (hr : spl vs o x.cells = some r) {q : Hp → Prop} (hq : ∀ h1, Wr h h1 b (.cells r f false) → q h1) : (Pu E).store h e (.ptr b o) x q :=
  (pu_store he hg hx hc hr q).2 (hq _ ⟨by rw [Hp.get_set, if_pos rfl], rfl, fun c hc => by rw [Hp.get_set, if_neg hc]⟩)
theorem pu_bslX {t e n : Nat} {z : V} (ht : IsSl E t e) (he : El E e 1 [z] false) (ps : List (Nat × V)) (hc : ∀ p ∈ ps, C1 p.2) (hp : placesOK (placesOf 1 0 n) (rep n [z]).length ps = true) (hn : n ≤ 65536) {h : Hp} {q : V → Hp → Blk → Prop}
    (hq : ∀ h1 b, New h h1 b (.cells (setAll (placesOf 1 0 n) (rep n [z]) ps) e false) → q (.sl b 0 n n) h1 (.cells (setAll (placesOf 1 0 n) (rep n [z]) ps) e false)) : (Pu E).bsl h t n ps q := by
  obtain ⟨ti, h1, h2⟩ := ht
  obtain ⟨⟨j, h5, h6, h7, h8, _⟩, h9⟩ := he
  have hcb : (Nat.ble (n * j.size) 16777216 && Nat.beq ((j.zero.getD []).length) j.size) = true := by
    rw [h6, h7]
    simp only [Option.getD_some, List.length_cons, List.length_nil, Nat.mul_one, Bool.and_eq_true]
    exact ⟨Nat.ble_eq_true_of_le (by omega), rfl⟩
  have : vbuildSlice E t n ps = some (.sl n n, .cells (setAll (placesOf 1 0 n) (rep n [z]) ps) e false) := by
    simp only [vbuildSlice, h1, Option.bind_some, h2, h5]
    rw [hcb, h7, h6]
    simp only [cond_true, Option.bind_some]
    rw [fill_cells _ ps _ hc hp]
    rfl
  exact ⟨_, this, hq _ _ (New.mk' _ _)⟩
theorem same1_refl : ∀ v : V, v.isCell = true → (∀ f a c, v ≠ .fn f a c) → (∀ t x, v ≠ .iface t x) → v ≠ .any → same1 v v = true := by
  intro v h1 h2 h3 h4
  cases v <;> simp [same1, keq_refl, ieq_dec, seq_dec] <;> first | (exact absurd rfl h4) | (exact absurd rfl (h2 _ _ _)) | (exact absurd rfl (h3 _ _)) | (cases h1; done) | skip
end
end Go.Proofs.YtpimnaojhaeiiaaGreatDoor.VM
namespace Go.Proofs.YtpimnaojhaeiiaaGreatDoor.VM
open Go
noncomputable section
def awakeMemo : Memo := ⟨[], .bool true, []⟩
theorem awakeMemo_run : look [] 1000000 (callOf E (exec E 3000) 4 awakeMemo.al ⟨.leaf, 0⟩) = some (awakeMemo.v.ren (rn [] 1000000), awakeMemo.bs.map (Blk.ren (rn [] 1000000))) := by kernel_rfl
set_option maxRecDepth 20000 in
theorem awakeMemo_ok : MemoOK Tryz.prog 4 awakeMemo :=
  @memoOK_of Tryz.prog E envOK @idleOK @hooksOK nameOK 4 3000 1000000 [] awakeMemo awakeMemo_run rfl rfl (by decide)
/-- the kind that undoes a kind -/
def turnK (k : Nat) : Nat := if k = 1 ∨ k = 3 ∨ k = 5 then k + 1 else if k = 2 ∨ k = 4 ∨ k = 6 then k - 1 else k
def turnV : V → Option V
  | .int .i64 (.ofNat k) => some (.int .i64 (.ofNat (turnK k)))
  | _ => none
def revT : Nat → List V → List V → Option (List V)
  | 0, _, acc => some acc
  | n + 1, .int .i64 (.ofNat k) :: .str b :: .int .i64 (.ofNat c) :: .int .i64 (.ofNat d) :: .int .i64 (.ofNat e) :: .str f :: r, acc => revT n r (.int .i64 (.ofNat (turnK k)) :: .str b :: .int .i64 (.ofNat c) :: .int .i64 (.ofNat d) :: .int .i64 (.ofNat e) :: .str f :: acc)
  | _, _, _ => none
def mkS (h : Hp) (cs : List V) (n : Nat) : V × Hp := bif Nat.beq n 0 then (.emp, h) else (.slo h.n 0 n n 6, h.new (.cells cs 28 false))
def isSlV : V → Bool
  | .nils | .emp | .sl .. | .slo .. => true
  | _ => false
def undoH (xs : List V) (h : Hp) : Option (V × Hp) :=
  match xs with
  | [.agg [x, y, z]] => bif isSlV x && isSlV y && isSlV z then
      (elemsV h 6 x).bind fun a => (elemsV h 6 y).bind fun b => (elemsV h 6 z).bind fun c =>
        bif Nat.ble a.2 1000 && Nat.ble b.2 1000 && Nat.ble c.2 1000 then
          (revT a.2 a.1 []).bind fun r => (revT b.2 b.1 []).bind fun _ => (revT c.2 c.1 []).bind fun _ =>
            some (.agg [(mkS (mkS (mkS h c.1 c.2).2 b.1 b.2).2 r a.2).1, (mkS h c.1 c.2).1, (mkS (mkS h c.1 c.2).2 b.1 b.2).1], (mkS (mkS (mkS h c.1 c.2).2 b.1 b.2).2 r a.2).2)
        else none
    else none
  | _ => none
def hooks9 : Nat → Option (List V → Hp → Option (V × Hp)) := fun f =>
  bif Nat.beq f 211 then some idxH else
  bif Nat.beq f 4 then some (memoH [awakeMemo]) else
  bif Nat.beq f 7 then some undoH else none
def EE : Env := Env.of Tryz.prog hooks9 idles
theorem envOK9 : EnvOK Tryz.prog EE := envOK_of _ _ _ (by kernel_rfl)
theorem awake_ok (h : Hp) : Ans EE 4 [] h fun v h' => v = .bool true ∧ h' = h.app [] :=
  ⟨_, _, Cs.hook (g := memoH [awakeMemo]) (by kernel_rfl) rfl, rfl, rfl⟩
end
end Go.Proofs.YtpimnaojhaeiiaaGreatDoor.VM
namespace Go.Proofs.YtpimnaojhaeiiaaGreatDoor.VM
open Go
noncomputable abbrev pu : Pr := Pu EE
end Go.Proofs.YtpimnaojhaeiiaaGreatDoor.VM
namespace Go.Proofs.YtpimnaojhaeiiaaGreatDoor.VM
open Go
set_option linter.unusedVariables false
set_option maxRecDepth 100000
noncomputable section
noncomputable def c_r1_Digits : Code := match Tryz.f6.body with | some c => c | none => .skip
theorem b_r1_Digits : Tryz.f6.body = some c_r1_Digits := by kernel_rfl
theorem e_r1_Digits : EE.fn.get 6 = some Tryz.f6 := by kernel_rfl
noncomputable def L_r1_Digits_1 (Q : V → Hp → Prop) (v0 v3 v4 : V) (h : Hp) : Prop := ∀ v1 v2 v5 v6 v7 v8 v9 v10 v11 v12 v13 v14 v15 v16 v17 v18 v19 v20 v21 v22 v23 v24 v25 v26 v27 v28 v29 v30 v31 v32 v33 v34 : V, Lab EE Tryz.f6 c_r1_Digits Q [false, false, true, true, true] [v0, v1, v2, v3, v4, v5, v6, v7, v8, v9, v10, v11, v12, v13, v14, v15, v16, v17, v18, v19, v20, v21, v22, v23, v24, v25, v26, v27, v28, v29, v30, v31, v32, v33, v34] h []
noncomputable def L_r1_Digits_2 (Q : V → Hp → Prop) (v0 v3 v4 : V) (h : Hp) : Prop := ∀ v1 v2 v5 v6 v7 v8 v9 v10 v11 v12 v13 v14 v15 v16 v17 v18 v19 v20 v21 v22 v23 v24 v25 v26 v27 v28 v29 v30 v31 v32 v33 v34 : V, Lab EE Tryz.f6 c_r1_Digits Q [true, true, true] [v0, v1, v2, v3, v4, v5, v6, v7, v8, v9, v10, v11, v12, v13, v14, v15, v16, v17, v18, v19, v20, v21, v22, v23, v24, v25, v26, v27, v28, v29, v30, v31, v32, v33, v34] h []
noncomputable def X_r1_Digits (l1 : V → V → V → Hp → Prop) (l2 : V → V → V → Hp → Prop) : Lb := fun π s h d => match d with
  | [] => bif eqB [false, false, true, true, true] π then l1 (nth s 0) (nth s 3) (nth s 4) h else bif eqB [true, true, true] π then l2 (nth s 0) (nth s 3) (nth s 4) h else False
  | _ => False
theorem o_r1_Digits (Q : V → Hp → Prop) : ∀ π s h d, X_r1_Digits (L_r1_Digits_1 Q) (L_r1_Digits_2 Q) π s h d → s.length = (Tryz.f6).ntmps → Lab EE Tryz.f6 c_r1_Digits Q π s h d := by
  intro π s h d hx hl
  have hl : s.length = 35 := hl
  rw [nth_all hl]
  cases d with
  | cons _ _ => exact hx.elim
  | nil =>
    simp only [X_r1_Digits] at hx
    cases hk : eqB [false, false, true, true, true] π with
    | true =>
      rw [hk, cond_true] at hx
      rw [← eqB_eq hk]
      exact hx (nth s 1) (nth s 2) (nth s 5) (nth s 6) (nth s 7) (nth s 8) (nth s 9) (nth s 10) (nth s 11) (nth s 12) (nth s 13) (nth s 14) (nth s 15) (nth s 16) (nth s 17) (nth s 18) (nth s 19) (nth s 20) (nth s 21) (nth s 22) (nth s 23) (nth s 24) (nth s 25) (nth s 26) (nth s 27) (nth s 28) (nth s 29) (nth s 30) (nth s 31) (nth s 32) (nth s 33) (nth s 34)
    | false =>
    rw [hk, cond_false] at hx
    cases hk : eqB [true, true, true] π with
    | true =>
      rw [hk, cond_true] at hx
      rw [← eqB_eq hk]
      exact hx (nth s 1) (nth s 2) (nth s 5) (nth s 6) (nth s 7) (nth s 8) (nth s 9) (nth s 10) (nth s 11) (nth s 12) (nth s 13) (nth s 14) (nth s 15) (nth s 16) (nth s 17) (nth s 18) (nth s 19) (nth s 20) (nth s 21) (nth s 22) (nth s 23) (nth s 24) (nth s 25) (nth s 26) (nth s 27) (nth s 28) (nth s 29) (nth s 30) (nth s 31) (nth s 32) (nth s 33) (nth s 34)
    | false =>
    rw [hk, cond_false] at hx
    exact hx.elim
noncomputable def t_r1_Digits_0 (p : Pr) (l1 : V → V → V → Hp → Prop) (l2 : V → V → V → Hp → Prop) (Q : V → Hp → Prop) (v0 : V) (h : Hp) : Prop :=
  p.conv h 3 54 v0 fun x1 =>
  p.bin .lss 3 false true v0 (.int .i64 0) fun x2 =>
  p.cond x2
  (fun _ =>
   p.un .neg x1 fun x3 =>
   l2 v0 x3 (.str []) h)
  (fun _ =>
   l2 v0 x1 (.str []) h)
theorem q_r1_Digits_0 (p : Pr) (l1 : V → V → V → Hp → Prop) (l2 : V → V → V → Hp → Prop) (Q : V → Hp → Prop) (v0 : V) (h : Hp) : t_r1_Digits_0 p l1 l2 Q v0 h = KAt p EE (cutOf [[false, false, true, true, true], [true, true, true]]) (X_r1_Digits l1 l2) c_r1_Digits [] [] (finK p Tryz.f6 Q) [v0, u0, u0, u0, u0, u0, u0, u0, u0, u0, u0, u0, u0, u0, u0, u0, u0, u0, u0, u0, u0, u0, u0, u0, u0, u0, u0, u0, u0, u0, u0, u0, u0, u0, u0] h [] := by kernel_rfl
theorem a_r1_Digits {Q : V → Hp → Prop} {v0 : V} {h : Hp} (H : t_r1_Digits_0 (Pu EE) (L_r1_Digits_1 Q) (L_r1_Digits_2 Q) Q v0 h) : Ans EE 6 [v0] h Q :=
  ans_of (by kernel_rfl) e_r1_Digits b_r1_Digits (by kernel_rfl) (lab_ofX (o_r1_Digits Q) [] (cast (q_r1_Digits_0 (Pu EE) (L_r1_Digits_1 Q) (L_r1_Digits_2 Q) Q v0 h) H))
noncomputable def t_r1_Digits_1 (p : Pr) (l1 : V → V → V → Hp → Prop) (l2 : V → V → V → Hp → Prop) (Q : V → Hp → Prop) (v0 v3 v4 : V) (h : Hp) : Prop :=
  p.bin .geq 54 false true v3 (.int .u64 10) fun x1 =>
  p.cond x1
  (fun _ =>
   p.bin .rem 54 false true v3 (.int .u64 10) fun x2 =>
   p.bin .add 54 true false (.int .u64 48) x2 fun x3 =>
   p.conv h 54 5 x3 fun x4 =>
   p.bsl h 22 1 [(0, x4)] fun x5 h6 b7 =>
   p.conv h6 22 9 x5 fun x8 =>
   p.bin .add 9 false false x8 v4 fun x9 =>
   p.bin .quo 54 false true v3 (.int .u64 10) fun x10 =>
   l1 v0 x10 x9 h6)
  (fun _ =>
   p.bin .add 54 true false (.int .u64 48) v3 fun x11 =>
   p.conv h 54 5 x11 fun x12 =>
   p.bsl h 22 1 [(0, x12)] fun x13 h14 b15 =>
   p.conv h14 22 9 x13 fun x16 =>
   p.bin .add 9 false false x16 v4 fun x17 =>
   p.bin .lss 3 false true v0 (.int .i64 0) fun x18 =>
   p.cond x18
   (fun _ =>
    p.bin .add 9 true false (.str [45]) x17 fun x19 =>
    Q x19 h14)
   (fun _ =>
    Q x17 h14))
theorem q_r1_Digits_1 (p : Pr) (l1 : V → V → V → Hp → Prop) (l2 : V → V → V → Hp → Prop) (Q : V → Hp → Prop) (v0 v1 v2 v3 v4 v5 v6 v7 v8 v9 v10 v11 v12 v13 v14 v15 v16 v17 v18 v19 v20 v21 v22 v23 v24 v25 v26 v27 v28 v29 v30 v31 v32 v33 v34 : V) (h : Hp) : t_r1_Digits_1 p l1 l2 Q v0 v3 v4 h = KAt p EE (cutOf [[false, false, true, true, true], [true, true, true]]) (X_r1_Digits l1 l2) c_r1_Digits [] [true, true, true, false, false] (finK p Tryz.f6 Q) [v0, v1, v2, v3, v4, v5, v6, v7, v8, v9, v10, v11, v12, v13, v14, v15, v16, v17, v18, v19, v20, v21, v22, v23, v24, v25, v26, v27, v28, v29, v30, v31, v32, v33, v34] h [] := by kernel_rfl
theorem r_r1_Digits_1 {Q : V → Hp → Prop} {v0 v3 v4 : V} {h : Hp} (H : t_r1_Digits_1 (Pu EE) (L_r1_Digits_1 Q) (L_r1_Digits_2 Q) Q v0 v3 v4 h) : L_r1_Digits_1 Q v0 v3 v4 h :=
  fun v1 v2 v5 v6 v7 v8 v9 v10 v11 v12 v13 v14 v15 v16 v17 v18 v19 v20 v21 v22 v23 v24 v25 v26 v27 v28 v29 v30 v31 v32 v33 v34 => lab_ofX (o_r1_Digits Q) [true, true, true, false, false] (cast (q_r1_Digits_1 (Pu EE) (L_r1_Digits_1 Q) (L_r1_Digits_2 Q) Q v0 v1 v2 v3 v4 v5 v6 v7 v8 v9 v10 v11 v12 v13 v14 v15 v16 v17 v18 v19 v20 v21 v22 v23 v24 v25 v26 v27 v28 v29 v30 v31 v32 v33 v34 h) H)
noncomputable def t_r1_Digits_2 (p : Pr) (l1 : V → V → V → Hp → Prop) (l2 : V → V → V → Hp → Prop) (Q : V → Hp → Prop) (v0 v3 v4 : V) (h : Hp) : Prop :=
  l1 v0 v3 v4 h
theorem q_r1_Digits_2 (p : Pr) (l1 : V → V → V → Hp → Prop) (l2 : V → V → V → Hp → Prop) (Q : V → Hp → Prop) (v0 v1 v2 v3 v4 v5 v6 v7 v8 v9 v10 v11 v12 v13 v14 v15 v16 v17 v18 v19 v20 v21 v22 v23 v24 v25 v26 v27 v28 v29 v30 v31 v32 v33 v34 : V) (h : Hp) : t_r1_Digits_2 p l1 l2 Q v0 v3 v4 h = KAt p EE (cutOf [[false, false, true, true, true], [true, true, true]]) (X_r1_Digits l1 l2) c_r1_Digits [] [true, true, true] (finK p Tryz.f6 Q) [v0, v1, v2, v3, v4, v5, v6, v7, v8, v9, v10, v11, v12, v13, v14, v15, v16, v17, v18, v19, v20, v21, v22, v23, v24, v25, v26, v27, v28, v29, v30, v31, v32, v33, v34] h [] := by kernel_rfl
theorem r_r1_Digits_2 {Q : V → Hp → Prop} {v0 v3 v4 : V} {h : Hp} (H : t_r1_Digits_2 (Pu EE) (L_r1_Digits_1 Q) (L_r1_Digits_2 Q) Q v0 v3 v4 h) : L_r1_Digits_2 Q v0 v3 v4 h :=
  fun v1 v2 v5 v6 v7 v8 v9 v10 v11 v12 v13 v14 v15 v16 v17 v18 v19 v20 v21 v22 v23 v24 v25 v26 v27 v28 v29 v30 v31 v32 v33 v34 => lab_ofX (o_r1_Digits Q) [true, true, true] (cast (q_r1_Digits_2 (Pu EE) (L_r1_Digits_1 Q) (L_r1_Digits_2 Q) Q v0 v1 v2 v3 v4 v5 v6 v7 v8 v9 v10 v11 v12 v13 v14 v15 v16 v17 v18 v19 v20 v21 v22 v23 v24 v25 v26 v27 v28 v29 v30 v31 v32 v33 v34 h) H)
noncomputable def c_law17_Step : Code := match Tryz.f5.body with | some c => c | none => .skip
theorem b_law17_Step : Tryz.f5.body = some c_law17_Step := by kernel_rfl
theorem e_law17_Step : EE.fn.get 5 = some Tryz.f5 := by kernel_rfl
noncomputable def t_law17_Step_0 (p : Pr) (Q : V → Hp → Prop) (v0 v1 : V) (h : Hp) : Prop :=
  p.alloc h 28 fun x1 h2 b3 =>
  p.conv h2 5 3 v0 fun x4 =>
  p.bin .rem 3 false true x4 (.int .i64 6) fun x5 =>
  p.bin .add 3 true false (.int .i64 1) x5 fun x6 =>
  p.bin .quo 5 false true v0 (.int .u8 6) fun x7 =>
  p.bin .rem 5 false true x7 (.int .u8 4) fun x8 =>
  p.bin .add 5 true false (.int .u8 65) x8 fun x9 =>
  p.bsl h2 22 1 [(0, x9)] fun x10 h11 b12 =>
  p.conv h11 22 9 x10 fun x13 =>
  p.conv h11 5 3 v1 fun x14 =>
  p.bin .rem 3 false true x14 (.int .i64 7) fun x15 =>
  p.build 28 [(0, x6), (1, x13), (2, x15)] fun x16 =>
  p.alloc h11 28 fun x17 h18 b19 =>
  p.store h18 28 x17 x16 fun h20 =>
  p.faddr 28 x17 0 fun x21 =>
  p.load h20 3 x21 fun x22 =>
  p.bin .leq 3 false true x22 (.int .i64 2) fun x23 =>
  p.cond x23
  (fun _ =>
   p.faddr 28 x17 2 fun x24 =>
   p.store h20 3 x24 (.int .i64 0) fun h25 =>
   p.conv h25 5 3 v1 fun x26 =>
   p.bin .rem 3 false true x26 (.int .i64 5) fun x27 =>
   p.faddr 28 x17 3 fun x28 =>
   p.store h25 3 x28 x27 fun h29 =>
   p.conv h29 5 3 v1 fun x30 =>
   p.bin .quo 3 false true x30 (.int .i64 5) fun x31 =>
   p.bin .rem 3 false true x31 (.int .i64 7) fun x32 =>
   p.faddr 28 x17 4 fun x33 =>
   p.store h29 3 x33 x32 fun h34 =>
   p.load h34 28 x17 fun x35 =>
   p.store h34 28 x1 x35 fun h36 =>
   p.load h36 28 x1 fun x37 =>
   Q x37 h36)
  (fun _ =>
   p.load h20 28 x17 fun x38 =>
   p.store h20 28 x1 x38 fun h39 =>
   p.load h39 28 x1 fun x40 =>
   Q x40 h39)
theorem q_law17_Step_0 (p : Pr) (Q : V → Hp → Prop) (v0 v1 : V) (h : Hp) : t_law17_Step_0 p Q v0 v1 h = KAt p EE (cutOf []) (fun _ _ _ _ => False) c_law17_Step [] [] (finK p Tryz.f5 Q) [v0, v1, u0, u0, u0, u0, u0, u0, u0, u0, u0, u0, u0, u0, u0, u0, u0, u0, u0, u0, u0, u0, u0, u0, u0, u0, u0, u0, u0, u0, u0, u0, u0, u0] h [] := by kernel_rfl
theorem a_law17_Step {Q : V → Hp → Prop} {v0 v1 : V} {h : Hp} (H : t_law17_Step_0 (Pu EE) Q v0 v1 h) : Ans EE 5 [v0, v1] h Q :=
  ans_of (by kernel_rfl) e_law17_Step b_law17_Step (by kernel_rfl) (lab_ofX (fun _ _ _ _ h => h.elim) [] (cast (q_law17_Step_0 (Pu EE) Q v0 v1 h) H))
noncomputable def c_code_Put : Code := match Tryz.f27.body with | some c => c | none => .skip
theorem b_code_Put : Tryz.f27.body = some c_code_Put := by kernel_rfl
theorem e_code_Put : EE.fn.get 27 = some Tryz.f27 := by kernel_rfl
noncomputable def L_code_Put_1 (Q : V → Hp → Prop) (v0 v3 : V) (h : Hp) : Prop := ∀ v1 v2 v4 v5 v6 v7 v8 v9 v10 v11 v12 v13 v14 v15 v16 v17 v18 v19 v20 : V, Lab EE Tryz.f27 c_code_Put Q [false, false, true, true, true] [v0, v1, v2, v3, v4, v5, v6, v7, v8, v9, v10, v11, v12, v13, v14, v15, v16, v17, v18, v19, v20] h []
noncomputable def X_code_Put (l1 : V → V → Hp → Prop) : Lb := fun π s h d => match d with
  | [] => bif eqB [false, false, true, true, true] π then l1 (nth s 0) (nth s 3) h else False
  | _ => False
theorem o_code_Put (Q : V → Hp → Prop) : ∀ π s h d, X_code_Put (L_code_Put_1 Q) π s h d → s.length = (Tryz.f27).ntmps → Lab EE Tryz.f27 c_code_Put Q π s h d := by
  intro π s h d hx hl
  have hl : s.length = 21 := hl
  rw [nth_all hl]
  cases d with
  | cons _ _ => exact hx.elim
  | nil =>
    simp only [X_code_Put] at hx
    cases hk : eqB [false, false, true, true, true] π with
    | true =>
      rw [hk, cond_true] at hx
      rw [← eqB_eq hk]
      exact hx (nth s 1) (nth s 2) (nth s 4) (nth s 5) (nth s 6) (nth s 7) (nth s 8) (nth s 9) (nth s 10) (nth s 11) (nth s 12) (nth s 13) (nth s 14) (nth s 15) (nth s 16) (nth s 17) (nth s 18) (nth s 19) (nth s 20)
    | false =>
    rw [hk, cond_false] at hx
    exact hx.elim
noncomputable def t_code_Put_0 (p : Pr) (l1 : V → V → Hp → Prop) (Q : V → Hp → Prop) (v0 : V) (h : Hp) : Prop :=
  p.bin .lss 3 false true v0 (.int .i64 0) fun x1 =>
  p.cond x1
  (fun _ =>
   Q .nils h)
  (fun _ =>
   l1 v0 .nils h)
theorem q_code_Put_0 (p : Pr) (l1 : V → V → Hp → Prop) (Q : V → Hp → Prop) (v0 : V) (h : Hp) : t_code_Put_0 p l1 Q v0 h = KAt p EE (cutOf [[false, false, true, true, true]]) (X_code_Put l1) c_code_Put [] [] (finK p Tryz.f27 Q) [v0, u0, u0, u0, u0, u0, u0, u0, u0, u0, u0, u0, u0, u0, u0, u0, u0, u0, u0, u0, u0] h [] := by kernel_rfl
theorem a_code_Put {Q : V → Hp → Prop} {v0 : V} {h : Hp} (H : t_code_Put_0 (Pu EE) (L_code_Put_1 Q) Q v0 h) : Ans EE 27 [v0] h Q :=
  ans_of (by kernel_rfl) e_code_Put b_code_Put (by kernel_rfl) (lab_ofX (o_code_Put Q) [] (cast (q_code_Put_0 (Pu EE) (L_code_Put_1 Q) Q v0 h) H))
noncomputable def t_code_Put_1 (p : Pr) (l1 : V → V → Hp → Prop) (Q : V → Hp → Prop) (v0 v3 : V) (h : Hp) : Prop :=
  p.bin .gtr 3 false true v0 (.int .i64 127) fun x1 =>
  p.cond x1
  (fun _ =>
   p.conv h 3 5 v0 fun x2 =>
   p.bin .or 5 false true x2 (.int .u8 128) fun x3 =>
   p.bsl h 22 1 [(0, x3)] fun x4 h5 b6 =>
   p.ebui h5 #[22, 22] .append [v3, x4] fun x7 h8 =>
   p.bin .shr 3 false true v0 (.int .u64 7) fun x9 =>
   l1 x9 x7 h8)
  (fun _ =>
   p.conv h 3 5 v0 fun x10 =>
   p.bsl h 22 1 [(0, x10)] fun x11 h12 b13 =>
   p.ebui h12 #[22, 22] .append [v3, x11] fun x14 h15 =>
   Q x14 h15)
theorem q_code_Put_1 (p : Pr) (l1 : V → V → Hp → Prop) (Q : V → Hp → Prop) (v0 v1 v2 v3 v4 v5 v6 v7 v8 v9 v10 v11 v12 v13 v14 v15 v16 v17 v18 v19 v20 : V) (h : Hp) : t_code_Put_1 p l1 Q v0 v3 h = KAt p EE (cutOf [[false, false, true, true, true]]) (X_code_Put l1) c_code_Put [] [true, true, true, false, false] (finK p Tryz.f27 Q) [v0, v1, v2, v3, v4, v5, v6, v7, v8, v9, v10, v11, v12, v13, v14, v15, v16, v17, v18, v19, v20] h [] := by kernel_rfl
theorem r_code_Put_1 {Q : V → Hp → Prop} {v0 v3 : V} {h : Hp} (H : t_code_Put_1 (Pu EE) (L_code_Put_1 Q) Q v0 v3 h) : L_code_Put_1 Q v0 v3 h :=
  fun v1 v2 v4 v5 v6 v7 v8 v9 v10 v11 v12 v13 v14 v15 v16 v17 v18 v19 v20 => lab_ofX (o_code_Put Q) [true, true, true, false, false] (cast (q_code_Put_1 (Pu EE) (L_code_Put_1 Q) Q v0 v1 v2 v3 v4 v5 v6 v7 v8 v9 v10 v11 v12 v13 v14 v15 v16 v17 v18 v19 v20 h) H)
end
end Go.Proofs.YtpimnaojhaeiiaaGreatDoor.VM
namespace Go.Proofs.YtpimnaojhaeiiaaGreatDoor.VM
open Go
noncomputable section
theorem l_api_Step : El EE 28 6 [.int .i64 0, .str [], .int .i64 0, .int .i64 0, .int .i64 0, .str []] true := el_of (by kernel_rfl) rfl
theorem i_int : IsInt EE 3 .i64 := isInt (by kernel_rfl)
theorem l_int : El EE 3 1 [.int .i64 0] false := el_of (by kernel_rfl) rfl
theorem fa_api_Step_0 (b o : Nat) (q : V → Prop) : (Pu EE).faddr 28 (.ptr b o) 0 q ↔ q (.ptr b (o + 0)) := fa_of (by kernel_rfl) q
theorem fi_api_Step_0 (x0 x1 x2 x3 x4 x5 : V) (q : V → Prop) : (Pu EE).field 28 (.agg [x0, x1, x2, x3, x4, x5]) 0 q ↔ q x0 := fi_of (by kernel_rfl) q
theorem st_string : IsStr EE 9 := isStr_ (by kernel_rfl)
theorem l_string : El EE 9 1 [.str []] false := el_of (by kernel_rfl) rfl
theorem fa_api_Step_1 (b o : Nat) (q : V → Prop) : (Pu EE).faddr 28 (.ptr b o) 1 q ↔ q (.ptr b (o + 1)) := fa_of (by kernel_rfl) q
theorem fi_api_Step_1 (x0 x1 x2 x3 x4 x5 : V) (q : V → Prop) : (Pu EE).field 28 (.agg [x0, x1, x2, x3, x4, x5]) 1 q ↔ q x1 := fi_of (by kernel_rfl) q
theorem fa_api_Step_2 (b o : Nat) (q : V → Prop) : (Pu EE).faddr 28 (.ptr b o) 2 q ↔ q (.ptr b (o + 2)) := fa_of (by kernel_rfl) q
theorem fi_api_Step_2 (x0 x1 x2 x3 x4 x5 : V) (q : V → Prop) : (Pu EE).field 28 (.agg [x0, x1, x2, x3, x4, x5]) 2 q ↔ q x2 := fi_of (by kernel_rfl) q
theorem fa_api_Step_3 (b o : Nat) (q : V → Prop) : (Pu EE).faddr 28 (.ptr b o) 3 q ↔ q (.ptr b (o + 3)) := fa_of (by kernel_rfl) q
theorem fi_api_Step_3 (x0 x1 x2 x3 x4 x5 : V) (q : V → Prop) : (Pu EE).field 28 (.agg [x0, x1, x2, x3, x4, x5]) 3 q ↔ q x3 := fi_of (by kernel_rfl) q
theorem fa_api_Step_4 (b o : Nat) (q : V → Prop) : (Pu EE).faddr 28 (.ptr b o) 4 q ↔ q (.ptr b (o + 4)) := fa_of (by kernel_rfl) q
theorem fi_api_Step_4 (x0 x1 x2 x3 x4 x5 : V) (q : V → Prop) : (Pu EE).field 28 (.agg [x0, x1, x2, x3, x4, x5]) 4 q ↔ q x4 := fi_of (by kernel_rfl) q
theorem fa_api_Step_5 (b o : Nat) (q : V → Prop) : (Pu EE).faddr 28 (.ptr b o) 5 q ↔ q (.ptr b (o + 5)) := fa_of (by kernel_rfl) q
theorem fi_api_Step_5 (x0 x1 x2 x3 x4 x5 : V) (q : V → Prop) : (Pu EE).field 28 (.agg [x0, x1, x2, x3, x4, x5]) 5 q ↔ q x5 := fi_of (by kernel_rfl) q
theorem so_api_Step : StructOf EE 28 [(0, 1), (1, 1), (2, 1), (3, 1), (4, 1), (5, 1)] [.int .i64 0, .str [], .int .i64 0, .int .i64 0, .int .i64 0, .str []] := structOf (by kernel_rfl)
theorem s_sl_api_Step : IsSl EE 24 28 := isSl (by kernel_rfl)
theorem l_sl_api_Step : El EE 24 1 [.nils] false := el_of (by kernel_rfl) rfl
theorem l_api_Patch : El EE 26 3 [.nils, .nils, .nils] true := el_of (by kernel_rfl) rfl
theorem fa_api_Patch_0 (b o : Nat) (q : V → Prop) : (Pu EE).faddr 26 (.ptr b o) 0 q ↔ q (.ptr b (o + 0)) := fa_of (by kernel_rfl) q
theorem fi_api_Patch_0 (x0 x1 x2 : V) (q : V → Prop) : (Pu EE).field 26 (.agg [x0, x1, x2]) 0 q ↔ q x0 := fi_of (by kernel_rfl) q
theorem fa_api_Patch_1 (b o : Nat) (q : V → Prop) : (Pu EE).faddr 26 (.ptr b o) 1 q ↔ q (.ptr b (o + 1)) := fa_of (by kernel_rfl) q
theorem fi_api_Patch_1 (x0 x1 x2 : V) (q : V → Prop) : (Pu EE).field 26 (.agg [x0, x1, x2]) 1 q ↔ q x1 := fi_of (by kernel_rfl) q
theorem fa_api_Patch_2 (b o : Nat) (q : V → Prop) : (Pu EE).faddr 26 (.ptr b o) 2 q ↔ q (.ptr b (o + 2)) := fa_of (by kernel_rfl) q
theorem fi_api_Patch_2 (x0 x1 x2 : V) (q : V → Prop) : (Pu EE).field 26 (.agg [x0, x1, x2]) 2 q ↔ q x2 := fi_of (by kernel_rfl) q
theorem so_api_Patch : StructOf EE 26 [(0, 1), (1, 1), (2, 1)] [.nils, .nils, .nils] := structOf (by kernel_rfl)
theorem l_code_Reader : El EE 62 3 [.nils, .int .i64 0, .bool false] true := el_of (by kernel_rfl) rfl
theorem i_uint8 : IsInt EE 5 .u8 := isInt (by kernel_rfl)
theorem l_uint8 : El EE 5 1 [.int .u8 0] false := el_of (by kernel_rfl) rfl
theorem s_sl_uint8 : IsSl EE 22 5 := isSl (by kernel_rfl)
theorem l_sl_uint8 : El EE 22 1 [.nils] false := el_of (by kernel_rfl) rfl
theorem fa_code_Reader_0 (b o : Nat) (q : V → Prop) : (Pu EE).faddr 62 (.ptr b o) 0 q ↔ q (.ptr b (o + 0)) := fa_of (by kernel_rfl) q
theorem fi_code_Reader_0 (x0 x1 x2 : V) (q : V → Prop) : (Pu EE).field 62 (.agg [x0, x1, x2]) 0 q ↔ q x0 := fi_of (by kernel_rfl) q
theorem fa_code_Reader_1 (b o : Nat) (q : V → Prop) : (Pu EE).faddr 62 (.ptr b o) 1 q ↔ q (.ptr b (o + 1)) := fa_of (by kernel_rfl) q
theorem fi_code_Reader_1 (x0 x1 x2 : V) (q : V → Prop) : (Pu EE).field 62 (.agg [x0, x1, x2]) 1 q ↔ q x1 := fi_of (by kernel_rfl) q
theorem l_bool : El EE 4 1 [.bool false] false := el_of (by kernel_rfl) rfl
theorem fa_code_Reader_2 (b o : Nat) (q : V → Prop) : (Pu EE).faddr 62 (.ptr b o) 2 q ↔ q (.ptr b (o + 2)) := fa_of (by kernel_rfl) q
theorem fi_code_Reader_2 (x0 x1 x2 : V) (q : V → Prop) : (Pu EE).field 62 (.agg [x0, x1, x2]) 2 q ↔ q x2 := fi_of (by kernel_rfl) q
theorem so_code_Reader : StructOf EE 62 [(0, 1), (1, 1), (2, 1)] [.nils, .int .i64 0, .bool false] := structOf (by kernel_rfl)
theorem i_uint64 : IsInt EE 54 .u64 := isInt (by kernel_rfl)
theorem l_uint64 : El EE 54 1 [.int .u64 0] false := el_of (by kernel_rfl) rfl
theorem s_sl_sl_api_Step : IsSl EE 64 24 := isSl (by kernel_rfl)
theorem l_sl_sl_api_Step : El EE 64 1 [.nils] false := el_of (by kernel_rfl) rfl
end
end Go.Proofs.YtpimnaojhaeiiaaGreatDoor.VM
namespace Go.Proofs.YtpimnaojhaeiiaaGreatDoor.VM
open Go
set_option linter.unusedVariables false
noncomputable section
theorem noInt {t e : Nat} (h : IsSl EE t e) : ∃ iu, EE.ty.get t = some iu ∧ ∀ k, iu.k ≠ .int k := by
  obtain ⟨i, h1, h2⟩ := h; exact ⟨i, h1, fun k => by rw [h2]; simp⟩
theorem pu_conv {s d : Nat} {k k' : IntKind} (hs : IsInt EE s k') (hd : IsInt EE d k) (h : Hp) (n : Int) (q : V → Prop) : (Pu EE).conv h s d (.int k' n) q ↔ q (.int k (k.wrap n)) := by
  obtain ⟨i, h1, _⟩ := hs
  obtain ⟨j, h2, h3⟩ := hd
  exact pu_conv_int h s d i j k k' h1 h2 h3 n q
theorem wrap_u8 (n : Nat) : IntKind.u8.wrap (n : Int) = ((n % 256 : Nat) : Int) := by rw [IntKind.wrap_u8]; omega
set_option maxRecDepth 100000 in
theorem or128 (n : Nat) : ((BitVec.ofInt 8 ((n % 256 : Nat) : Int)) ||| (BitVec.ofInt 8 128)).toNat = n % 128 + 128 := by
  have : ∀ a : Fin 256, ((BitVec.ofInt 8 ((a.val : Nat) : Int)) ||| (BitVec.ofInt 8 128)).toNat = a.val % 128 + 128 := by decide
  have h := this ⟨n % 256, Nat.mod_lt _ (by omega)⟩
  rw [h]
  simp only
  omega
theorem pu_or128 (t : Nat) (cx cy : Bool) (n : Nat) (q : V → Prop) : (Pu EE).bin .or t cx cy (.int .u8 ((n % 256 : Nat) : Int)) (.int .u8 128) q ↔ q (.int .u8 ((n % 128 + 128 : Nat) : Int)) := by
  rw [pu_bin]
  have : vbin .or (.int .u8 ((n % 256 : Nat) : Int)) (.int .u8 128) = some (.int .u8 ((n % 128 + 128 : Nat) : Int)) := by
    show some (bitop .u8 (· ||| ·) _ _) = _
    unfold bitop
    rw [mkInt_eq]
    show some (V.int .u8 (IntKind.u8.wrap ((((BitVec.ofInt 8 ((n % 256 : Nat) : Int)) ||| (BitVec.ofInt 8 128)).toNat : Nat) : Int))) = _
    rw [or128 n, wrap_u8]
    congr 2
    omega
  rw [this, ex_some]
def vB (n : Nat) : V := .int .u8 n
def putL (n : Nat) : List Nat := if h : n < 128 then [n] else (n % 128 + 128) :: putL (n / 128)
  termination_by n
  decreasing_by omega
theorem append_bytes {N : Nat} {h : Hp} {v y : V} {len n : Nat} {cs ws : List V} (o : Own N h v 5 1 len cs) (r : Rd h 1 y n ws) (hw : allCells ws = true) (hlen : len + n ≤ 1048576) (hN : N ≤ h.n) :
    ∃ v' h', (∀ q, (Pu EE).ebui h #[22, 22] .append [v, y] q ↔ q v' h') ∧ Own N h' v' 5 1 (len + n) (cs ++ ws) ∧ Ext N h h' ∧ (∀ c, c < h.n → blkOf v ≠ some c → h'.t.get c = h.t.get c) ∧ (∀ c, blkOf v' = some c → blkOf v = some c ∨ h.n ≤ c) :=
  own_append o rfl rfl s_sl_uint8 (noInt s_sl_uint8) l_uint8 (elems_rd r).1 (fun _ => rfl) hw hlen hN
/-- one byte more -/
theorem append_byte {N : Nat} {h : Hp} {v : V} {len : Nat} {l : List Nat} (o : Own N h v 5 1 len (l.map vB)) (b : Nat) (hlen : len + 1 ≤ 1048576) (hN : N ≤ h.n) (q : V → Hp → Prop)
    (hq : ∀ v' h', Own N h' v' 5 1 (len + 1) ((l ++ [b]).map vB) → Ext N h h' → q v' h') :
    (Pu EE).bsl h 22 1 [(0, .int .u8 b)] fun x h1 _ => (Pu EE).ebui h1 #[22, 22] .append [v, x] q := by
  rw [pu_lit1 s_sl_uint8 l_uint8 _ rfl (by omega)]
  have o1 : Own N (h.new (.cells [.int .u8 b] 5 false)) v 5 1 len (l.map vB) := o.keep (Nat.le_succ _) (fun c hc => by rw [Hp.get_new, if_neg (Nat.ne_of_lt (o.in_ c hc))])
  obtain ⟨v', h', h1, h2, h3, _, _⟩ := append_bytes o1 (rd_lit (e := 5) (ws := [V.int .u8 (b : Int)]) rfl).rd rfl hlen (Nat.le_succ_of_le hN)
  exact (h1 q).2 (hq v' h' (by rw [List.map_append]; exact h2) ((Ext.new hN _).trans h3))
theorem putL_small {n : Nat} (h : n < 128) : putL n = [n] := by rw [putL, dif_pos h]
theorem putL_big {n : Nat} (h : ¬ n < 128) : putL n = (n % 128 + 128) :: putL (n / 128) := by rw [putL, dif_neg h]
theorem shr7 (n : Nat) : (n : Int).fdiv (2 ^ (min 7 (IntKind.bits .i64))) = ((n / 128 : Nat) : Int) := by
  have : (2 : Int) ^ (min 7 (IntKind.bits .i64)) = 128 := by decide
  rw [this]
  rw [Int.fdiv_eq_ediv_of_nonneg _ (by omega)]
  omega
theorem put_loop (N : Nat) (Q : V → Hp → Prop) (n : Nat) : ∀ (h : Hp) (v : V) (len : Nat) (l : List Nat), N ≤ h.n → Own N h v 5 1 len (l.map vB) → len + (putL n).length ≤ 1000000 →
    (∀ v' h', Own N h' v' 5 1 (len + (putL n).length) ((l ++ putL n).map vB) → Ext N h h' → Q v' h') → L_code_Put_1 Q (.int .i64 n) v h := by
  induction n using Nat.strongRecOn with
  | _ n ih =>
    intro h v len l hN o hfit hq
    apply r_code_Put_1
    unfold t_code_Put_1
    simp only [pu_gtr, pu_cond_d, pu_conv i_int i_uint8, wrap_u8, pu_or128]
    refine ⟨fun h1 => ?_, fun h1 => ?_⟩
    · have hb : ¬ n < 128 := by omega
      rw [putL_big hb] at hq hfit
      rw [List.length_cons] at hq hfit
      refine append_byte o _ (by omega) hN _ fun v' h' o' x => ?_
      rw [show (7 : Int) = ((7 : Nat) : Int) from rfl, pu_shr, shr7]
      refine ih (n / 128) (by omega) h' v' (len + 1) (l ++ [n % 128 + 128]) (Nat.le_trans hN x.n) o' (by omega) fun v2 h2 o2 x2 => ?_
      refine hq v2 h2 ?_ (x.trans x2)
      rw [List.append_assoc] at o2
      rw [show len + ((putL (n / 128)).length + 1) = len + 1 + (putL (n / 128)).length by omega]
      exact o2
    · have hb : n < 128 := by omega
      rw [putL_small hb] at hq hfit
      rw [show n % 256 = n by omega]
      exact append_byte o _ (by simp at hfit; omega) hN _ fun v' h' o' x => hq v' h' o' x
theorem put_any (n : Nat) (h : Hp) (hfit : (putL n).length ≤ 1000000) : Ans EE 27 [.int .i64 n] h fun v h' => Own h.n h' v 5 1 (putL n).length ((putL n).map vB) ∧ Ext h.n h h' := by
  apply a_code_Put
  unfold t_code_Put_0
  simp only [pu_lss, pu_cond_d]
  refine ⟨fun h1 => by omega, fun _ => ?_⟩
  exact put_loop h.n _ n h .nils 0 [] (Nat.le_refl _) (Own.nil _ _ _ _) (by omega) fun v' h' o x => ⟨by simpa using o, x⟩
end
end Go.Proofs.YtpimnaojhaeiiaaGreatDoor.VM
namespace Go.Proofs.YtpimnaojhaeiiaaGreatDoor.VM
open Go
set_option linter.unusedVariables false
set_option maxRecDepth 100000
noncomputable section
noncomputable def c_law17_PatchUndo : Code := match Tryz.f3.body with | some c => c | none => .skip
theorem b_law17_PatchUndo : Tryz.f3.body = some c_law17_PatchUndo := by kernel_rfl
theorem e_law17_PatchUndo : EE.fn.get 3 = some Tryz.f3 := by kernel_rfl
noncomputable def L_law17_PatchUndo_1 (Q : V → Hp → Prop) (v0 v1 v2 v3 v9 v10 : V) (h : Hp) : Prop := ∀ v4 v5 v6 v7 v8 v11 v12 v13 v14 v15 v16 v17 v18 v19 v20 v21 v22 v23 v24 v25 v26 v27 v28 v29 v30 v31 v32 v33 v34 v35 v36 v37 v38 v39 v40 v41 v42 v43 v44 v45 v46 v47 v48 v49 v50 v51 v52 v53 v54 v55 v56 v57 v58 v59 v60 v61 v62 v63 v64 v65 v66 v67 v68 v69 v70 v71 v72 v73 v74 v75 v76 v77 v78 v79 v80 v81 v82 v83 v84 v85 v86 v87 v88 v89 v90 v91 v92 v93 v94 v95 v96 v97 v98 v99 v100 v101 v102 v103 v104 v105 v106 v107 v108 v109 v110 v111 v112 v113 v114 v115 v116 v117 v118 v119 v120 v121 v122 v123 v124 v125 v126 v127 v128 v129 v130 v131 v132 v133 v134 v135 v136 v137 v138 v139 v140 v141 v142 v143 v144 v145 v146 v147 v148 v149 v150 v151 v152 v153 v154 v155 v156 v157 v158 v159 v160 v161 v162 v163 v164 v165 v166 v167 v168 v169 v170 v171 v172 v173 v174 v175 v176 : V, Lab EE Tryz.f3 c_law17_PatchUndo Q [false, true, false, true, true, true] [v0, v1, v2, v3, v4, v5, v6, v7, v8, v9, v10, v11, v12, v13, v14, v15, v16, v17, v18, v19, v20, v21, v22, v23, v24, v25, v26, v27, v28, v29, v30, v31, v32, v33, v34, v35, v36, v37, v38, v39, v40, v41, v42, v43, v44, v45, v46, v47, v48, v49, v50, v51, v52, v53, v54, v55, v56, v57, v58, v59, v60, v61, v62, v63, v64, v65, v66, v67, v68, v69, v70, v71, v72, v73, v74, v75, v76, v77, v78, v79, v80, v81, v82, v83, v84, v85, v86, v87, v88, v89, v90, v91, v92, v93, v94, v95, v96, v97, v98, v99, v100, v101, v102, v103, v104, v105, v106, v107, v108, v109, v110, v111, v112, v113, v114, v115, v116, v117, v118, v119, v120, v121, v122, v123, v124, v125, v126, v127, v128, v129, v130, v131, v132, v133, v134, v135, v136, v137, v138, v139, v140, v141, v142, v143, v144, v145, v146, v147, v148, v149, v150, v151, v152, v153, v154, v155, v156, v157, v158, v159, v160, v161, v162, v163, v164, v165, v166, v167, v168, v169, v170, v171, v172, v173, v174, v175, v176] h []
noncomputable def L_law17_PatchUndo_2 (Q : V → Hp → Prop) (v1 v2 v3 v9 v11 : V) (h : Hp) : Prop := ∀ v0 v4 v5 v6 v7 v8 v10 v12 v13 v14 v15 v16 v17 v18 v19 v20 v21 v22 v23 v24 v25 v26 v27 v28 v29 v30 v31 v32 v33 v34 v35 v36 v37 v38 v39 v40 v41 v42 v43 v44 v45 v46 v47 v48 v49 v50 v51 v52 v53 v54 v55 v56 v57 v58 v59 v60 v61 v62 v63 v64 v65 v66 v67 v68 v69 v70 v71 v72 v73 v74 v75 v76 v77 v78 v79 v80 v81 v82 v83 v84 v85 v86 v87 v88 v89 v90 v91 v92 v93 v94 v95 v96 v97 v98 v99 v100 v101 v102 v103 v104 v105 v106 v107 v108 v109 v110 v111 v112 v113 v114 v115 v116 v117 v118 v119 v120 v121 v122 v123 v124 v125 v126 v127 v128 v129 v130 v131 v132 v133 v134 v135 v136 v137 v138 v139 v140 v141 v142 v143 v144 v145 v146 v147 v148 v149 v150 v151 v152 v153 v154 v155 v156 v157 v158 v159 v160 v161 v162 v163 v164 v165 v166 v167 v168 v169 v170 v171 v172 v173 v174 v175 v176 : V, Lab EE Tryz.f3 c_law17_PatchUndo Q [false, true, false, true, true, true, true] [v0, v1, v2, v3, v4, v5, v6, v7, v8, v9, v10, v11, v12, v13, v14, v15, v16, v17, v18, v19, v20, v21, v22, v23, v24, v25, v26, v27, v28, v29, v30, v31, v32, v33, v34, v35, v36, v37, v38, v39, v40, v41, v42, v43, v44, v45, v46, v47, v48, v49, v50, v51, v52, v53, v54, v55, v56, v57, v58, v59, v60, v61, v62, v63, v64, v65, v66, v67, v68, v69, v70, v71, v72, v73, v74, v75, v76, v77, v78, v79, v80, v81, v82, v83, v84, v85, v86, v87, v88, v89, v90, v91, v92, v93, v94, v95, v96, v97, v98, v99, v100, v101, v102, v103, v104, v105, v106, v107, v108, v109, v110, v111, v112, v113, v114, v115, v116, v117, v118, v119, v120, v121, v122, v123, v124, v125, v126, v127, v128, v129, v130, v131, v132, v133, v134, v135, v136, v137, v138, v139, v140, v141, v142, v143, v144, v145, v146, v147, v148, v149, v150, v151, v152, v153, v154, v155, v156, v157, v158, v159, v160, v161, v162, v163, v164, v165, v166, v167, v168, v169, v170, v171, v172, v173, v174, v175, v176] h []
noncomputable def L_law17_PatchUndo_3 (Q : V → Hp → Prop) (v2 v9 v12 : V) (h : Hp) : Prop := ∀ v0 v1 v3 v4 v5 v6 v7 v8 v10 v11 v13 v14 v15 v16 v17 v18 v19 v20 v21 v22 v23 v24 v25 v26 v27 v28 v29 v30 v31 v32 v33 v34 v35 v36 v37 v38 v39 v40 v41 v42 v43 v44 v45 v46 v47 v48 v49 v50 v51 v52 v53 v54 v55 v56 v57 v58 v59 v60 v61 v62 v63 v64 v65 v66 v67 v68 v69 v70 v71 v72 v73 v74 v75 v76 v77 v78 v79 v80 v81 v82 v83 v84 v85 v86 v87 v88 v89 v90 v91 v92 v93 v94 v95 v96 v97 v98 v99 v100 v101 v102 v103 v104 v105 v106 v107 v108 v109 v110 v111 v112 v113 v114 v115 v116 v117 v118 v119 v120 v121 v122 v123 v124 v125 v126 v127 v128 v129 v130 v131 v132 v133 v134 v135 v136 v137 v138 v139 v140 v141 v142 v143 v144 v145 v146 v147 v148 v149 v150 v151 v152 v153 v154 v155 v156 v157 v158 v159 v160 v161 v162 v163 v164 v165 v166 v167 v168 v169 v170 v171 v172 v173 v174 v175 v176 : V, Lab EE Tryz.f3 c_law17_PatchUndo Q [false, true, false, true, true, true, true, true] [v0, v1, v2, v3, v4, v5, v6, v7, v8, v9, v10, v11, v12, v13, v14, v15, v16, v17, v18, v19, v20, v21, v22, v23, v24, v25, v26, v27, v28, v29, v30, v31, v32, v33, v34, v35, v36, v37, v38, v39, v40, v41, v42, v43, v44, v45, v46, v47, v48, v49, v50, v51, v52, v53, v54, v55, v56, v57, v58, v59, v60, v61, v62, v63, v64, v65, v66, v67, v68, v69, v70, v71, v72, v73, v74, v75, v76, v77, v78, v79, v80, v81, v82, v83, v84, v85, v86, v87, v88, v89, v90, v91, v92, v93, v94, v95, v96, v97, v98, v99, v100, v101, v102, v103, v104, v105, v106, v107, v108, v109, v110, v111, v112, v113, v114, v115, v116, v117, v118, v119, v120, v121, v122, v123, v124, v125, v126, v127, v128, v129, v130, v131, v132, v133, v134, v135, v136, v137, v138, v139, v140, v141, v142, v143, v144, v145, v146, v147, v148, v149, v150, v151, v152, v153, v154, v155, v156, v157, v158, v159, v160, v161, v162, v163, v164, v165, v166, v167, v168, v169, v170, v171, v172, v173, v174, v175, v176] h []
noncomputable def X_law17_PatchUndo (l1 : V → V → V → V → V → V → Hp → Prop) (l2 : V → V → V → V → V → Hp → Prop) (l3 : V → V → V → Hp → Prop) : Lb := fun π s h d => match d with
  | [] => bif eqB [false, true, false, true, true, true] π then l1 (nth s 0) (nth s 1) (nth s 2) (nth s 3) (nth s 9) (nth s 10) h else bif eqB [false, true, false, true, true, true, true] π then l2 (nth s 1) (nth s 2) (nth s 3) (nth s 9) (nth s 11) h else bif eqB [false, true, false, true, true, true, true, true] π then l3 (nth s 2) (nth s 9) (nth s 12) h else False
  | _ => False
theorem o_law17_PatchUndo (Q : V → Hp → Prop) : ∀ π s h d, X_law17_PatchUndo (L_law17_PatchUndo_1 Q) (L_law17_PatchUndo_2 Q) (L_law17_PatchUndo_3 Q) π s h d → s.length = (Tryz.f3).ntmps → Lab EE Tryz.f3 c_law17_PatchUndo Q π s h d := by
  intro π s h d hx hl
  have hl : s.length = 177 := hl
  rw [nth_all hl]
  cases d with
  | cons _ _ => exact hx.elim
  | nil =>
    simp only [X_law17_PatchUndo] at hx
    cases hk : eqB [false, true, false, true, true, true] π with
    | true =>
      rw [hk, cond_true] at hx
      rw [← eqB_eq hk]
      exact hx (nth s 4) (nth s 5) (nth s 6) (nth s 7) (nth s 8) (nth s 11) (nth s 12) (nth s 13) (nth s 14) (nth s 15) (nth s 16) (nth s 17) (nth s 18) (nth s 19) (nth s 20) (nth s 21) (nth s 22) (nth s 23) (nth s 24) (nth s 25) (nth s 26) (nth s 27) (nth s 28) (nth s 29) (nth s 30) (nth s 31) (nth s 32) (nth s 33) (nth s 34) (nth s 35) (nth s 36) (nth s 37) (nth s 38) (nth s 39) (nth s 40) (nth s 41) (nth s 42) (nth s 43) (nth s 44) (nth s 45) (nth s 46) (nth s 47) (nth s 48) (nth s 49) (nth s 50) (nth s 51) (nth s 52) (nth s 53) (nth s 54) (nth s 55) (nth s 56) (nth s 57) (nth s 58) (nth s 59) (nth s 60) (nth s 61) (nth s 62) (nth s 63) (nth s 64) (nth s 65) (nth s 66) (nth s 67) (nth s 68) (nth s 69) (nth s 70) (nth s 71) (nth s 72) (nth s 73) (nth s 74) (nth s 75) (nth s 76) (nth s 77) (nth s 78) (nth s 79) (nth s 80) (nth s 81) (nth s 82) (nth s 83) (nth s 84) (nth s 85) (nth s 86) (nth s 87) (nth s 88) (nth s 89) (nth s 90) (nth s 91) (nth s 92) (nth s 93) (nth s 94) (nth s 95) (nth s 96) (nth s 97) (nth s 98) (nth s 99) (nth s 100) (nth s 101) (nth s 102) (nth s 103) (nth s 104) (nth s 105) (nth s 106) (nth s 107) (nth s 108) (nth s 109) (nth s 110) (nth s 111) (nth s 112) (nth s 113) (nth s 114) (nth s 115) (nth s 116) (nth s 117) (nth s 118) (nth s 119) (nth s 120) (nth s 121) (nth s 122) (nth s 123) (nth s 124) (nth s 125) (nth s 126) (nth s 127) (nth s 128) (nth s 129) (nth s 130) (nth s 131) (nth s 132) (nth s 133) (nth s 134) (nth s 135) (nth s 136) (nth s 137) (nth s 138) (nth s 139) (nth s 140) (nth s 141) (nth s 142) (nth s 143) (nth s 144) (nth s 145) (nth s 146) (nth s 147) (nth s 148) (nth s 149) (nth s 150) (nth s 151) (nth s 152) (nth s 153) (nth s 154) (nth s 155) (nth s 156) (nth s 157) (nth s 158) (nth s 159) (nth s 160) (nth s 161) (nth s 162) (nth s 163) (nth s 164) (nth s 165) (nth s 166) (nth s 167) (nth s 168) (nth s 169) (nth s 170) (nth s 171) (nth s 172) (nth s 173) (nth s 174) (nth s 175) (nth s 176)
    | false =>
    rw [hk, cond_false] at hx
    cases hk : eqB [false, true, false, true, true, true, true] π with
    | true =>
      rw [hk, cond_true] at hx
      rw [← eqB_eq hk]
      exact hx (nth s 0) (nth s 4) (nth s 5) (nth s 6) (nth s 7) (nth s 8) (nth s 10) (nth s 12) (nth s 13) (nth s 14) (nth s 15) (nth s 16) (nth s 17) (nth s 18) (nth s 19) (nth s 20) (nth s 21) (nth s 22) (nth s 23) (nth s 24) (nth s 25) (nth s 26) (nth s 27) (nth s 28) (nth s 29) (nth s 30) (nth s 31) (nth s 32) (nth s 33) (nth s 34) (nth s 35) (nth s 36) (nth s 37) (nth s 38) (nth s 39) (nth s 40) (nth s 41) (nth s 42) (nth s 43) (nth s 44) (nth s 45) (nth s 46) (nth s 47) (nth s 48) (nth s 49) (nth s 50) (nth s 51) (nth s 52) (nth s 53) (nth s 54) (nth s 55) (nth s 56) (nth s 57) (nth s 58) (nth s 59) (nth s 60) (nth s 61) (nth s 62) (nth s 63) (nth s 64) (nth s 65) (nth s 66) (nth s 67) (nth s 68) (nth s 69) (nth s 70) (nth s 71) (nth s 72) (nth s 73) (nth s 74) (nth s 75) (nth s 76) (nth s 77) (nth s 78) (nth s 79) (nth s 80) (nth s 81) (nth s 82) (nth s 83) (nth s 84) (nth s 85) (nth s 86) (nth s 87) (nth s 88) (nth s 89) (nth s 90) (nth s 91) (nth s 92) (nth s 93) (nth s 94) (nth s 95) (nth s 96) (nth s 97) (nth s 98) (nth s 99) (nth s 100) (nth s 101) (nth s 102) (nth s 103) (nth s 104) (nth s 105) (nth s 106) (nth s 107) (nth s 108) (nth s 109) (nth s 110) (nth s 111) (nth s 112) (nth s 113) (nth s 114) (nth s 115) (nth s 116) (nth s 117) (nth s 118) (nth s 119) (nth s 120) (nth s 121) (nth s 122) (nth s 123) (nth s 124) (nth s 125) (nth s 126) (nth s 127) (nth s 128) (nth s 129) (nth s 130) (nth s 131) (nth s 132) (nth s 133) (nth s 134) (nth s 135) (nth s 136) (nth s 137) (nth s 138) (nth s 139) (nth s 140) (nth s 141) (nth s 142) (nth s 143) (nth s 144) (nth s 145) (nth s 146) (nth s 147) (nth s 148) (nth s 149) (nth s 150) (nth s 151) (nth s 152) (nth s 153) (nth s 154) (nth s 155) (nth s 156) (nth s 157) (nth s 158) (nth s 159) (nth s 160) (nth s 161) (nth s 162) (nth s 163) (nth s 164) (nth s 165) (nth s 166) (nth s 167) (nth s 168) (nth s 169) (nth s 170) (nth s 171) (nth s 172) (nth s 173) (nth s 174) (nth s 175) (nth s 176)
    | false =>
    rw [hk, cond_false] at hx
    cases hk : eqB [false, true, false, true, true, true, true, true] π with
    | true =>
      rw [hk, cond_true] at hx
      rw [← eqB_eq hk]
      exact hx (nth s 0) (nth s 1) (nth s 3) (nth s 4) (nth s 5) (nth s 6) (nth s 7) (nth s 8) (nth s 10) (nth s 11) (nth s 13) (nth s 14) (nth s 15) (nth s 16) (nth s 17) (nth s 18) (nth s 19) (nth s 20) (nth s 21) (nth s 22) (nth s 23) (nth s 24) (nth s 25) (nth s 26) (nth s 27) (nth s 28) (nth s 29) (nth s 30) (nth s 31) (nth s 32) (nth s 33) (nth s 34) (nth s 35) (nth s 36) (nth s 37) (nth s 38) (nth s 39) (nth s 40) (nth s 41) (nth s 42) (nth s 43) (nth s 44) (nth s 45) (nth s 46) (nth s 47) (nth s 48) (nth s 49) (nth s 50) (nth s 51) (nth s 52) (nth s 53) (nth s 54) (nth s 55) (nth s 56) (nth s 57) (nth s 58) (nth s 59) (nth s 60) (nth s 61) (nth s 62) (nth s 63) (nth s 64) (nth s 65) (nth s 66) (nth s 67) (nth s 68) (nth s 69) (nth s 70) (nth s 71) (nth s 72) (nth s 73) (nth s 74) (nth s 75) (nth s 76) (nth s 77) (nth s 78) (nth s 79) (nth s 80) (nth s 81) (nth s 82) (nth s 83) (nth s 84) (nth s 85) (nth s 86) (nth s 87) (nth s 88) (nth s 89) (nth s 90) (nth s 91) (nth s 92) (nth s 93) (nth s 94) (nth s 95) (nth s 96) (nth s 97) (nth s 98) (nth s 99) (nth s 100) (nth s 101) (nth s 102) (nth s 103) (nth s 104) (nth s 105) (nth s 106) (nth s 107) (nth s 108) (nth s 109) (nth s 110) (nth s 111) (nth s 112) (nth s 113) (nth s 114) (nth s 115) (nth s 116) (nth s 117) (nth s 118) (nth s 119) (nth s 120) (nth s 121) (nth s 122) (nth s 123) (nth s 124) (nth s 125) (nth s 126) (nth s 127) (nth s 128) (nth s 129) (nth s 130) (nth s 131) (nth s 132) (nth s 133) (nth s 134) (nth s 135) (nth s 136) (nth s 137) (nth s 138) (nth s 139) (nth s 140) (nth s 141) (nth s 142) (nth s 143) (nth s 144) (nth s 145) (nth s 146) (nth s 147) (nth s 148) (nth s 149) (nth s 150) (nth s 151) (nth s 152) (nth s 153) (nth s 154) (nth s 155) (nth s 156) (nth s 157) (nth s 158) (nth s 159) (nth s 160) (nth s 161) (nth s 162) (nth s 163) (nth s 164) (nth s 165) (nth s 166) (nth s 167) (nth s 168) (nth s 169) (nth s 170) (nth s 171) (nth s 172) (nth s 173) (nth s 174) (nth s 175) (nth s 176)
    | false =>
    rw [hk, cond_false] at hx
    exact hx.elim
noncomputable def t_law17_PatchUndo_0 (p : Pr) (l1 : V → V → V → V → V → V → Hp → Prop) (l2 : V → V → V → V → V → Hp → Prop) (l3 : V → V → V → Hp → Prop) (Q : V → Hp → Prop) (v0 v1 v2 v3 : V) (h : Hp) : Prop :=
  p.lbui h #[22] .len [v0] fun x1 =>
  p.bin .gtr 3 false true x1 (.int .i64 40) fun x2 =>
  p.gval x2 false (fun k3 =>
   k3 v1) fun x4 =>
  p.gval x2 false (fun k5 =>
   p.lbui h #[22] .len [x4] fun x6 =>
   k5 x6) fun x7 =>
  p.gval x2 false (fun k8 =>
   p.bin .gtr 3 false true x7 (.int .i64 40) fun x9 =>
   k8 x9) fun x10 =>
  p.pick x2 (some (.bool true)) (some x10) fun x11 =>
  p.gval x11 false (fun k12 =>
   k12 v2) fun x13 =>
  p.gval x11 false (fun k14 =>
   p.lbui h #[22] .len [x13] fun x15 =>
   k14 x15) fun x16 =>
  p.gval x11 false (fun k17 =>
   p.bin .gtr 3 false true x16 (.int .i64 40) fun x18 =>
   k17 x18) fun x19 =>
  p.pick x11 (some (.bool true)) (some x19) fun x20 =>
  p.gval x20 false (fun k21 =>
   k21 v3) fun x22 =>
  p.gval x20 false (fun k23 =>
   p.lbui h #[9] .len [x22] fun x24 =>
   k23 x24) fun x25 =>
  p.gval x20 false (fun k26 =>
   p.bin .gtr 3 false true x25 (.int .i64 100) fun x27 =>
   k26 x27) fun x28 =>
  p.pick x20 (some (.bool true)) (some x28) fun x29 =>
  p.cond x29
  (fun _ =>
   p.call 4 [] h fun x30 h31 =>
   Q x30 h31)
  (fun _ =>
   p.alloc h 26 fun x32 h33 b34 =>
   l1 v0 v1 v2 v3 x32 (.int .i64 0) h33)
theorem q_law17_PatchUndo_0 (p : Pr) (l1 : V → V → V → V → V → V → Hp → Prop) (l2 : V → V → V → V → V → Hp → Prop) (l3 : V → V → V → Hp → Prop) (Q : V → Hp → Prop) (v0 v1 v2 v3 : V) (h : Hp) : t_law17_PatchUndo_0 p l1 l2 l3 Q v0 v1 v2 v3 h = KAt p EE (cutOf [[false, true, false, true, true, true], [false, true, false, true, true, true, true], [false, true, false, true, true, true, true, true]]) (X_law17_PatchUndo l1 l2 l3) c_law17_PatchUndo [] [] (finK p Tryz.f3 Q) [v0, v1, v2, v3, u0, u0, u0, u0, u0, u0, u0, u0, u0, u0, u0, u0, u0, u0, u0, u0, u0, u0, u0, u0, u0, u0, u0, u0, u0, u0, u0, u0, u0, u0, u0, u0, u0, u0, u0, u0, u0, u0, u0, u0, u0, u0, u0, u0, u0, u0, u0, u0, u0, u0, u0, u0, u0, u0, u0, u0, u0, u0, u0, u0, u0, u0, u0, u0, u0, u0, u0, u0, u0, u0, u0, u0, u0, u0, u0, u0, u0, u0, u0, u0, u0, u0, u0, u0, u0, u0, u0, u0, u0, u0, u0, u0, u0, u0, u0, u0, u0, u0, u0, u0, u0, u0, u0, u0, u0, u0, u0, u0, u0, u0, u0, u0, u0, u0, u0, u0, u0, u0, u0, u0, u0, u0, u0, u0, u0, u0, u0, u0, u0, u0, u0, u0, u0, u0, u0, u0, u0, u0, u0, u0, u0, u0, u0, u0, u0, u0, u0, u0, u0, u0, u0, u0, u0, u0, u0, u0, u0, u0, u0, u0, u0, u0, u0, u0, u0, u0, u0, u0, u0, u0, u0, u0, u0] h [] := by kernel_rfl
theorem a_law17_PatchUndo {Q : V → Hp → Prop} {v0 v1 v2 v3 : V} {h : Hp} (H : t_law17_PatchUndo_0 (Pu EE) (L_law17_PatchUndo_1 Q) (L_law17_PatchUndo_2 Q) (L_law17_PatchUndo_3 Q) Q v0 v1 v2 v3 h) : Ans EE 3 [v0, v1, v2, v3] h Q :=
  ans_of (by kernel_rfl) e_law17_PatchUndo b_law17_PatchUndo (by kernel_rfl) (lab_ofX (o_law17_PatchUndo Q) [] (cast (q_law17_PatchUndo_0 (Pu EE) (L_law17_PatchUndo_1 Q) (L_law17_PatchUndo_2 Q) (L_law17_PatchUndo_3 Q) Q v0 v1 v2 v3 h) H))
noncomputable def t_law17_PatchUndo_1 (p : Pr) (l1 : V → V → V → V → V → V → Hp → Prop) (l2 : V → V → V → V → V → Hp → Prop) (l3 : V → V → V → Hp → Prop) (Q : V → Hp → Prop) (v0 v1 v2 v3 v9 v10 : V) (h : Hp) : Prop :=
  p.bin .add 3 false true v10 (.int .i64 1) fun x1 =>
  p.lbui h #[22] .len [v0] fun x2 =>
  p.bin .lss 3 false false x1 x2 fun x3 =>
  p.cond x3
  (fun _ =>
   p.faddr 26 v9 0 fun x4 =>
   p.load h 24 x4 fun x5 =>
   p.iaddr 22 v0 v10 fun x6 =>
   p.load h 5 x6 fun x7 =>
   p.bin .add 3 false true v10 (.int .i64 1) fun x8 =>
   p.iaddr 22 v0 x8 fun x9 =>
   p.load h 5 x9 fun x10 =>
   p.call 5 [x7, x10] h fun x11 h12 =>
   p.load h12 24 x4 fun x13 =>
   p.same x13 x5 (
   p.bsl h12 24 1 [(0, x11)] fun x14 h15 b16 =>
   p.load h15 24 x4 fun x17 =>
   p.same x17 x5 (
   p.ebui h15 #[24, 24] .append [x5, x14] fun x18 h19 =>
   p.faddr 26 v9 0 fun x20 =>
   p.store h19 24 x20 x18 fun h21 =>
   p.bin .add 3 false true v10 (.int .i64 2) fun x22 =>
   l1 v0 v1 v2 v3 v9 x22 h21)))
  (fun _ =>
   l2 v1 v2 v3 v9 (.int .i64 0) h)
theorem q_law17_PatchUndo_1 (p : Pr) (l1 : V → V → V → V → V → V → Hp → Prop) (l2 : V → V → V → V → V → Hp → Prop) (l3 : V → V → V → Hp → Prop) (Q : V → Hp → Prop) (v0 v1 v2 v3 v4 v5 v6 v7 v8 v9 v10 v11 v12 v13 v14 v15 v16 v17 v18 v19 v20 v21 v22 v23 v24 v25 v26 v27 v28 v29 v30 v31 v32 v33 v34 v35 v36 v37 v38 v39 v40 v41 v42 v43 v44 v45 v46 v47 v48 v49 v50 v51 v52 v53 v54 v55 v56 v57 v58 v59 v60 v61 v62 v63 v64 v65 v66 v67 v68 v69 v70 v71 v72 v73 v74 v75 v76 v77 v78 v79 v80 v81 v82 v83 v84 v85 v86 v87 v88 v89 v90 v91 v92 v93 v94 v95 v96 v97 v98 v99 v100 v101 v102 v103 v104 v105 v106 v107 v108 v109 v110 v111 v112 v113 v114 v115 v116 v117 v118 v119 v120 v121 v122 v123 v124 v125 v126 v127 v128 v129 v130 v131 v132 v133 v134 v135 v136 v137 v138 v139 v140 v141 v142 v143 v144 v145 v146 v147 v148 v149 v150 v151 v152 v153 v154 v155 v156 v157 v158 v159 v160 v161 v162 v163 v164 v165 v166 v167 v168 v169 v170 v171 v172 v173 v174 v175 v176 : V) (h : Hp) : t_law17_PatchUndo_1 p l1 l2 l3 Q v0 v1 v2 v3 v9 v10 h = KAt p EE (cutOf [[false, true, false, true, true, true], [false, true, false, true, true, true, true], [false, true, false, true, true, true, true, true]]) (X_law17_PatchUndo l1 l2 l3) c_law17_PatchUndo [] [true, true, true, false, true, false] (finK p Tryz.f3 Q) [v0, v1, v2, v3, v4, v5, v6, v7, v8, v9, v10, v11, v12, v13, v14, v15, v16, v17, v18, v19, v20, v21, v22, v23, v24, v25, v26, v27, v28, v29, v30, v31, v32, v33, v34, v35, v36, v37, v38, v39, v40, v41, v42, v43, v44, v45, v46, v47, v48, v49, v50, v51, v52, v53, v54, v55, v56, v57, v58, v59, v60, v61, v62, v63, v64, v65, v66, v67, v68, v69, v70, v71, v72, v73, v74, v75, v76, v77, v78, v79, v80, v81, v82, v83, v84, v85, v86, v87, v88, v89, v90, v91, v92, v93, v94, v95, v96, v97, v98, v99, v100, v101, v102, v103, v104, v105, v106, v107, v108, v109, v110, v111, v112, v113, v114, v115, v116, v117, v118, v119, v120, v121, v122, v123, v124, v125, v126, v127, v128, v129, v130, v131, v132, v133, v134, v135, v136, v137, v138, v139, v140, v141, v142, v143, v144, v145, v146, v147, v148, v149, v150, v151, v152, v153, v154, v155, v156, v157, v158, v159, v160, v161, v162, v163, v164, v165, v166, v167, v168, v169, v170, v171, v172, v173, v174, v175, v176] h [] := by kernel_rfl
theorem r_law17_PatchUndo_1 {Q : V → Hp → Prop} {v0 v1 v2 v3 v9 v10 : V} {h : Hp} (H : t_law17_PatchUndo_1 (Pu EE) (L_law17_PatchUndo_1 Q) (L_law17_PatchUndo_2 Q) (L_law17_PatchUndo_3 Q) Q v0 v1 v2 v3 v9 v10 h) : L_law17_PatchUndo_1 Q v0 v1 v2 v3 v9 v10 h :=
  fun v4 v5 v6 v7 v8 v11 v12 v13 v14 v15 v16 v17 v18 v19 v20 v21 v22 v23 v24 v25 v26 v27 v28 v29 v30 v31 v32 v33 v34 v35 v36 v37 v38 v39 v40 v41 v42 v43 v44 v45 v46 v47 v48 v49 v50 v51 v52 v53 v54 v55 v56 v57 v58 v59 v60 v61 v62 v63 v64 v65 v66 v67 v68 v69 v70 v71 v72 v73 v74 v75 v76 v77 v78 v79 v80 v81 v82 v83 v84 v85 v86 v87 v88 v89 v90 v91 v92 v93 v94 v95 v96 v97 v98 v99 v100 v101 v102 v103 v104 v105 v106 v107 v108 v109 v110 v111 v112 v113 v114 v115 v116 v117 v118 v119 v120 v121 v122 v123 v124 v125 v126 v127 v128 v129 v130 v131 v132 v133 v134 v135 v136 v137 v138 v139 v140 v141 v142 v143 v144 v145 v146 v147 v148 v149 v150 v151 v152 v153 v154 v155 v156 v157 v158 v159 v160 v161 v162 v163 v164 v165 v166 v167 v168 v169 v170 v171 v172 v173 v174 v175 v176 => lab_ofX (o_law17_PatchUndo Q) [true, true, true, false, true, false] (cast (q_law17_PatchUndo_1 (Pu EE) (L_law17_PatchUndo_1 Q) (L_law17_PatchUndo_2 Q) (L_law17_PatchUndo_3 Q) Q v0 v1 v2 v3 v4 v5 v6 v7 v8 v9 v10 v11 v12 v13 v14 v15 v16 v17 v18 v19 v20 v21 v22 v23 v24 v25 v26 v27 v28 v29 v30 v31 v32 v33 v34 v35 v36 v37 v38 v39 v40 v41 v42 v43 v44 v45 v46 v47 v48 v49 v50 v51 v52 v53 v54 v55 v56 v57 v58 v59 v60 v61 v62 v63 v64 v65 v66 v67 v68 v69 v70 v71 v72 v73 v74 v75 v76 v77 v78 v79 v80 v81 v82 v83 v84 v85 v86 v87 v88 v89 v90 v91 v92 v93 v94 v95 v96 v97 v98 v99 v100 v101 v102 v103 v104 v105 v106 v107 v108 v109 v110 v111 v112 v113 v114 v115 v116 v117 v118 v119 v120 v121 v122 v123 v124 v125 v126 v127 v128 v129 v130 v131 v132 v133 v134 v135 v136 v137 v138 v139 v140 v141 v142 v143 v144 v145 v146 v147 v148 v149 v150 v151 v152 v153 v154 v155 v156 v157 v158 v159 v160 v161 v162 v163 v164 v165 v166 v167 v168 v169 v170 v171 v172 v173 v174 v175 v176 h) H)
noncomputable def t_law17_PatchUndo_2 (p : Pr) (l1 : V → V → V → V → V → V → Hp → Prop) (l2 : V → V → V → V → V → Hp → Prop) (l3 : V → V → V → Hp → Prop) (Q : V → Hp → Prop) (v1 v2 v3 v9 v11 : V) (h : Hp) : Prop :=
  p.lbui h #[22] .len [v1] fun x1 =>
  p.bin .lss 3 false false v11 x1 fun x2 =>
  p.cond x2
  (fun _ =>
   p.faddr 26 v9 1 fun x3 =>
   p.load h 24 x3 fun x4 =>
   p.iaddr 22 v1 v11 fun x5 =>
   p.load h 5 x5 fun x6 =>
   p.conv h 5 3 x6 fun x7 =>
   p.build 28 [(0, (.int .i64 7)), (1, (.str [65])), (2, x7), (5, v3)] fun x8 =>
   p.bsl h 24 1 [(0, x8)] fun x9 h10 b11 =>
   p.conv h10 5 3 x6 fun x12 =>
   p.same x12 x7 (
   p.load h10 5 x5 fun x13 =>
   p.same x13 x6 (
   p.load h10 24 x3 fun x14 =>
   p.same x14 x4 (
   p.ebui h10 #[24, 24] .append [x4, x9] fun x15 h16 =>
   p.faddr 26 v9 1 fun x17 =>
   p.store h16 24 x17 x15 fun h18 =>
   p.bin .add 3 false true v11 (.int .i64 1) fun x19 =>
   l2 v1 v2 v3 v9 x19 h18))))
  (fun _ =>
   l3 v2 v9 (.int .i64 0) h)
theorem q_law17_PatchUndo_2 (p : Pr) (l1 : V → V → V → V → V → V → Hp → Prop) (l2 : V → V → V → V → V → Hp → Prop) (l3 : V → V → V → Hp → Prop) (Q : V → Hp → Prop) (v0 v1 v2 v3 v4 v5 v6 v7 v8 v9 v10 v11 v12 v13 v14 v15 v16 v17 v18 v19 v20 v21 v22 v23 v24 v25 v26 v27 v28 v29 v30 v31 v32 v33 v34 v35 v36 v37 v38 v39 v40 v41 v42 v43 v44 v45 v46 v47 v48 v49 v50 v51 v52 v53 v54 v55 v56 v57 v58 v59 v60 v61 v62 v63 v64 v65 v66 v67 v68 v69 v70 v71 v72 v73 v74 v75 v76 v77 v78 v79 v80 v81 v82 v83 v84 v85 v86 v87 v88 v89 v90 v91 v92 v93 v94 v95 v96 v97 v98 v99 v100 v101 v102 v103 v104 v105 v106 v107 v108 v109 v110 v111 v112 v113 v114 v115 v116 v117 v118 v119 v120 v121 v122 v123 v124 v125 v126 v127 v128 v129 v130 v131 v132 v133 v134 v135 v136 v137 v138 v139 v140 v141 v142 v143 v144 v145 v146 v147 v148 v149 v150 v151 v152 v153 v154 v155 v156 v157 v158 v159 v160 v161 v162 v163 v164 v165 v166 v167 v168 v169 v170 v171 v172 v173 v174 v175 v176 : V) (h : Hp) : t_law17_PatchUndo_2 p l1 l2 l3 Q v1 v2 v3 v9 v11 h = KAt p EE (cutOf [[false, true, false, true, true, true], [false, true, false, true, true, true, true], [false, true, false, true, true, true, true, true]]) (X_law17_PatchUndo l1 l2 l3) c_law17_PatchUndo [] [true, true, true, true, false, true, false] (finK p Tryz.f3 Q) [v0, v1, v2, v3, v4, v5, v6, v7, v8, v9, v10, v11, v12, v13, v14, v15, v16, v17, v18, v19, v20, v21, v22, v23, v24, v25, v26, v27, v28, v29, v30, v31, v32, v33, v34, v35, v36, v37, v38, v39, v40, v41, v42, v43, v44, v45, v46, v47, v48, v49, v50, v51, v52, v53, v54, v55, v56, v57, v58, v59, v60, v61, v62, v63, v64, v65, v66, v67, v68, v69, v70, v71, v72, v73, v74, v75, v76, v77, v78, v79, v80, v81, v82, v83, v84, v85, v86, v87, v88, v89, v90, v91, v92, v93, v94, v95, v96, v97, v98, v99, v100, v101, v102, v103, v104, v105, v106, v107, v108, v109, v110, v111, v112, v113, v114, v115, v116, v117, v118, v119, v120, v121, v122, v123, v124, v125, v126, v127, v128, v129, v130, v131, v132, v133, v134, v135, v136, v137, v138, v139, v140, v141, v142, v143, v144, v145, v146, v147, v148, v149, v150, v151, v152, v153, v154, v155, v156, v157, v158, v159, v160, v161, v162, v163, v164, v165, v166, v167, v168, v169, v170, v171, v172, v173, v174, v175, v176] h [] := by kernel_rfl
theorem r_law17_PatchUndo_2 {Q : V → Hp → Prop} {v1 v2 v3 v9 v11 : V} {h : Hp} (H : t_law17_PatchUndo_2 (Pu EE) (L_law17_PatchUndo_1 Q) (L_law17_PatchUndo_2 Q) (L_law17_PatchUndo_3 Q) Q v1 v2 v3 v9 v11 h) : L_law17_PatchUndo_2 Q v1 v2 v3 v9 v11 h :=
  fun v0 v4 v5 v6 v7 v8 v10 v12 v13 v14 v15 v16 v17 v18 v19 v20 v21 v22 v23 v24 v25 v26 v27 v28 v29 v30 v31 v32 v33 v34 v35 v36 v37 v38 v39 v40 v41 v42 v43 v44 v45 v46 v47 v48 v49 v50 v51 v52 v53 v54 v55 v56 v57 v58 v59 v60 v61 v62 v63 v64 v65 v66 v67 v68 v69 v70 v71 v72 v73 v74 v75 v76 v77 v78 v79 v80 v81 v82 v83 v84 v85 v86 v87 v88 v89 v90 v91 v92 v93 v94 v95 v96 v97 v98 v99 v100 v101 v102 v103 v104 v105 v106 v107 v108 v109 v110 v111 v112 v113 v114 v115 v116 v117 v118 v119 v120 v121 v122 v123 v124 v125 v126 v127 v128 v129 v130 v131 v132 v133 v134 v135 v136 v137 v138 v139 v140 v141 v142 v143 v144 v145 v146 v147 v148 v149 v150 v151 v152 v153 v154 v155 v156 v157 v158 v159 v160 v161 v162 v163 v164 v165 v166 v167 v168 v169 v170 v171 v172 v173 v174 v175 v176 => lab_ofX (o_law17_PatchUndo Q) [true, true, true, true, false, true, false] (cast (q_law17_PatchUndo_2 (Pu EE) (L_law17_PatchUndo_1 Q) (L_law17_PatchUndo_2 Q) (L_law17_PatchUndo_3 Q) Q v0 v1 v2 v3 v4 v5 v6 v7 v8 v9 v10 v11 v12 v13 v14 v15 v16 v17 v18 v19 v20 v21 v22 v23 v24 v25 v26 v27 v28 v29 v30 v31 v32 v33 v34 v35 v36 v37 v38 v39 v40 v41 v42 v43 v44 v45 v46 v47 v48 v49 v50 v51 v52 v53 v54 v55 v56 v57 v58 v59 v60 v61 v62 v63 v64 v65 v66 v67 v68 v69 v70 v71 v72 v73 v74 v75 v76 v77 v78 v79 v80 v81 v82 v83 v84 v85 v86 v87 v88 v89 v90 v91 v92 v93 v94 v95 v96 v97 v98 v99 v100 v101 v102 v103 v104 v105 v106 v107 v108 v109 v110 v111 v112 v113 v114 v115 v116 v117 v118 v119 v120 v121 v122 v123 v124 v125 v126 v127 v128 v129 v130 v131 v132 v133 v134 v135 v136 v137 v138 v139 v140 v141 v142 v143 v144 v145 v146 v147 v148 v149 v150 v151 v152 v153 v154 v155 v156 v157 v158 v159 v160 v161 v162 v163 v164 v165 v166 v167 v168 v169 v170 v171 v172 v173 v174 v175 v176 h) H)
noncomputable def t_law17_PatchUndo_3 (p : Pr) (l1 : V → V → V → V → V → V → Hp → Prop) (l2 : V → V → V → V → V → Hp → Prop) (l3 : V → V → V → Hp → Prop) (Q : V → Hp → Prop) (v2 v9 v12 : V) (h : Hp) : Prop :=
  p.lbui h #[22] .len [v2] fun x1 =>
  p.bin .lss 3 false false v12 x1 fun x2 =>
  p.cond x2
  (fun _ =>
   p.faddr 26 v9 2 fun x3 =>
   p.load h 24 x3 fun x4 =>
   p.iaddr 22 v2 v12 fun x5 =>
   p.load h 5 x5 fun x6 =>
   p.conv h 5 3 x6 fun x7 =>
   p.call 6 [v12] h fun x8 h9 =>
   p.conv h9 5 3 x6 fun x10 =>
   p.same x10 x7 (
   p.load h9 5 x5 fun x11 =>
   p.same x11 x6 (
   p.load h9 24 x3 fun x12 =>
   p.same x12 x4 (
   p.build 28 [(0, (.int .i64 7)), (1, (.str [66])), (3, x7), (5, x8)] fun x13 =>
   p.bsl h9 24 1 [(0, x13)] fun x14 h15 b16 =>
   p.conv h15 5 3 x6 fun x17 =>
   p.same x17 x7 (
   p.load h15 5 x5 fun x18 =>
   p.same x18 x6 (
   p.load h15 24 x3 fun x19 =>
   p.same x19 x4 (
   p.ebui h15 #[24, 24] .append [x4, x14] fun x20 h21 =>
   p.faddr 26 v9 2 fun x22 =>
   p.store h21 24 x22 x20 fun h23 =>
   p.bin .add 3 false true v12 (.int .i64 1) fun x24 =>
   l3 v2 v9 x24 h23)))))))
  (fun _ =>
   p.load h 26 v9 fun x25 =>
   p.call 7 [x25] h fun x26 h27 =>
   p.alloc h27 26 fun x28 h29 b30 =>
   p.store h29 26 x28 x26 fun h31 =>
   p.load h31 26 v9 fun x32 =>
   p.call 9 [x32] h31 fun x33 h34 =>
   p.call 8 [x33] h34 fun x35 h36 =>
   p.extr x35 0 fun x37 =>
   p.extr x35 1 fun x38 =>
   p.alloc h36 26 fun x39 h40 b41 =>
   p.store h40 26 x39 x37 fun h42 =>
   p.load h42 26 x28 fun x43 =>
   p.call 9 [x43] h42 fun x44 h45 =>
   p.call 8 [x44] h45 fun x46 h47 =>
   p.extr x46 0 fun x48 =>
   p.extr x46 1 fun x49 =>
   p.alloc h47 26 fun x50 h51 b52 =>
   p.store h51 26 x50 x48 fun h53 =>
   p.load h53 26 v9 fun x54 =>
   p.call 9 [x54] h53 fun x55 h56 =>
   p.lbui h56 #[22] .len [x55] fun x57 =>
   p.bin .eql 3 false true x57 (.int .i64 0) fun x58 =>
   p.cond x58
   (fun _ =>
    Q (.bool false) h56)
   (fun _ =>
    p.lbui h56 #[22] .len [x55] fun x59 =>
    p.bin .sub 3 false true x59 (.int .i64 1) fun x60 =>
    p.slice 22 x55 none (some x60) none fun x61 =>
    p.call 8 [x61] h56 fun x62 h63 =>
    p.extr x62 0 fun x64 =>
    p.extr x62 1 fun x65 =>
    p.alloc h63 26 fun x66 h67 b68 =>
    p.store h67 26 x66 x64 fun h69 =>
    p.load h69 26 x28 fun x70 =>
    p.load h69 26 v9 fun x71 =>
    p.call 7 [x70] h69 fun x72 h73 =>
    p.load h73 26 v9 fun x74 =>
    p.same x74 x71 (
    p.call 10 [x72, x71] h73 fun x75 h76 =>
    p.gval x75 true (fun k77 =>
     p.faddr 26 x28 0 fun x78 =>
     k77 x78) fun x79 =>
    p.gval x75 true (fun k80 =>
     p.load h76 24 x79 fun x81 =>
     k80 x81) fun x82 =>
    p.gval x75 true (fun k83 =>
     p.lbui h76 #[24] .len [x82] fun x84 =>
     k83 x84) fun x85 =>
    p.gval x75 true (fun k86 =>
     p.faddr 26 v9 0 fun x87 =>
     k86 x87) fun x88 =>
    p.gval x75 true (fun k89 =>
     p.load h76 24 x88 fun x90 =>
     k89 x90) fun x91 =>
    p.gval x75 true (fun k92 =>
     p.lbui h76 #[24] .len [x91] fun x93 =>
     k92 x93) fun x94 =>
    p.gval x75 true (fun k95 =>
     p.bin .eql 3 false false x85 x94 fun x96 =>
     k95 x96) fun x97 =>
    p.pick x75 (some x97) (some (.bool false)) fun x98 =>
    p.gval x98 true (fun k99 =>
     p.faddr 26 x28 1 fun x100 =>
     k99 x100) fun x101 =>
    p.gval x98 true (fun k102 =>
     p.load h76 24 x101 fun x103 =>
     k102 x103) fun x104 =>
    p.gval x98 true (fun k105 =>
     p.faddr 26 v9 2 fun x106 =>
     k105 x106) fun x107 =>
    p.gval x98 true (fun k108 =>
     p.load h76 24 x107 fun x109 =>
     k108 x109) fun x110 =>
    p.geff x98 true (fun k111 =>
     p.call 11 [x104, x110] h76 fun x112 h113 =>
     k111 x112 h113) h76 fun x114 h115 =>
    p.pick x98 (some x114) (some (.bool false)) fun x116 =>
    p.gval x116 true (fun k117 =>
     p.faddr 26 x28 2 fun x118 =>
     k117 x118) fun x119 =>
    p.gval x116 true (fun k120 =>
     p.load h115 24 x119 fun x121 =>
     k120 x121) fun x122 =>
    p.gval x116 true (fun k123 =>
     p.faddr 26 v9 1 fun x124 =>
     k123 x124) fun x125 =>
    p.gval x116 true (fun k126 =>
     p.load h115 24 x125 fun x127 =>
     k126 x127) fun x128 =>
    p.geff x116 true (fun k129 =>
     p.call 11 [x122, x128] h115 fun x130 h131 =>
     k129 x130 h131) h115 fun x132 h133 =>
    p.pick x116 (some x132) (some (.bool false)) fun x134 =>
    p.gval x134 true (fun k135 =>
     k135 x38) fun x136 =>
    p.pick x134 (some x136) (some (.bool false)) fun x137 =>
    p.gval x137 true (fun k138 =>
     p.load h133 26 x39 fun x139 =>
     k138 x139) fun x140 =>
    p.gval x137 true (fun k141 =>
     p.load h133 26 v9 fun x142 =>
     k141 x142) fun x143 =>
    p.geff x137 true (fun k144 =>
     p.call 10 [x140, x143] h133 fun x145 h146 =>
     k144 x145 h146) h133 fun x147 h148 =>
    p.pick x137 (some x147) (some (.bool false)) fun x149 =>
    p.gval x149 true (fun k150 =>
     k150 x49) fun x151 =>
    p.pick x149 (some x151) (some (.bool false)) fun x152 =>
    p.gval x152 true (fun k153 =>
     p.load h148 26 x50 fun x154 =>
     k153 x154) fun x155 =>
    p.gval x152 true (fun k156 =>
     p.load h148 26 x28 fun x157 =>
     k156 x157) fun x158 =>
    p.geff x152 true (fun k159 =>
     p.call 10 [x155, x158] h148 fun x160 h161 =>
     k159 x160 h161) h148 fun x162 h163 =>
    p.pick x152 (some x162) (some (.bool false)) fun x164 =>
    p.gval x164 true (fun k165 =>
     k165 x65) fun x166 =>
    p.gval x164 true (fun k167 =>
     p.un .not x166 fun x168 =>
     k167 x168) fun x169 =>
    p.pick x164 (some x169) (some (.bool false)) fun x170 =>
    p.geff x170 true (fun k171 =>
     p.call 4 [] h163 fun x172 h173 =>
     k171 x172 h173) h163 fun x174 h175 =>
    p.pick x170 (some x174) (some (.bool false)) fun x176 =>
    Q x176 h175)))
theorem q_law17_PatchUndo_3 (p : Pr) (l1 : V → V → V → V → V → V → Hp → Prop) (l2 : V → V → V → V → V → Hp → Prop) (l3 : V → V → V → Hp → Prop) (Q : V → Hp → Prop) (v0 v1 v2 v3 v4 v5 v6 v7 v8 v9 v10 v11 v12 v13 v14 v15 v16 v17 v18 v19 v20 v21 v22 v23 v24 v25 v26 v27 v28 v29 v30 v31 v32 v33 v34 v35 v36 v37 v38 v39 v40 v41 v42 v43 v44 v45 v46 v47 v48 v49 v50 v51 v52 v53 v54 v55 v56 v57 v58 v59 v60 v61 v62 v63 v64 v65 v66 v67 v68 v69 v70 v71 v72 v73 v74 v75 v76 v77 v78 v79 v80 v81 v82 v83 v84 v85 v86 v87 v88 v89 v90 v91 v92 v93 v94 v95 v96 v97 v98 v99 v100 v101 v102 v103 v104 v105 v106 v107 v108 v109 v110 v111 v112 v113 v114 v115 v116 v117 v118 v119 v120 v121 v122 v123 v124 v125 v126 v127 v128 v129 v130 v131 v132 v133 v134 v135 v136 v137 v138 v139 v140 v141 v142 v143 v144 v145 v146 v147 v148 v149 v150 v151 v152 v153 v154 v155 v156 v157 v158 v159 v160 v161 v162 v163 v164 v165 v166 v167 v168 v169 v170 v171 v172 v173 v174 v175 v176 : V) (h : Hp) : t_law17_PatchUndo_3 p l1 l2 l3 Q v2 v9 v12 h = KAt p EE (cutOf [[false, true, false, true, true, true], [false, true, false, true, true, true, true], [false, true, false, true, true, true, true, true]]) (X_law17_PatchUndo l1 l2 l3) c_law17_PatchUndo [] [true, true, true, true, true, false, true, false] (finK p Tryz.f3 Q) [v0, v1, v2, v3, v4, v5, v6, v7, v8, v9, v10, v11, v12, v13, v14, v15, v16, v17, v18, v19, v20, v21, v22, v23, v24, v25, v26, v27, v28, v29, v30, v31, v32, v33, v34, v35, v36, v37, v38, v39, v40, v41, v42, v43, v44, v45, v46, v47, v48, v49, v50, v51, v52, v53, v54, v55, v56, v57, v58, v59, v60, v61, v62, v63, v64, v65, v66, v67, v68, v69, v70, v71, v72, v73, v74, v75, v76, v77, v78, v79, v80, v81, v82, v83, v84, v85, v86, v87, v88, v89, v90, v91, v92, v93, v94, v95, v96, v97, v98, v99, v100, v101, v102, v103, v104, v105, v106, v107, v108, v109, v110, v111, v112, v113, v114, v115, v116, v117, v118, v119, v120, v121, v122, v123, v124, v125, v126, v127, v128, v129, v130, v131, v132, v133, v134, v135, v136, v137, v138, v139, v140, v141, v142, v143, v144, v145, v146, v147, v148, v149, v150, v151, v152, v153, v154, v155, v156, v157, v158, v159, v160, v161, v162, v163, v164, v165, v166, v167, v168, v169, v170, v171, v172, v173, v174, v175, v176] h [] := by kernel_rfl
theorem r_law17_PatchUndo_3 {Q : V → Hp → Prop} {v2 v9 v12 : V} {h : Hp} (H : t_law17_PatchUndo_3 (Pu EE) (L_law17_PatchUndo_1 Q) (L_law17_PatchUndo_2 Q) (L_law17_PatchUndo_3 Q) Q v2 v9 v12 h) : L_law17_PatchUndo_3 Q v2 v9 v12 h :=
  fun v0 v1 v3 v4 v5 v6 v7 v8 v10 v11 v13 v14 v15 v16 v17 v18 v19 v20 v21 v22 v23 v24 v25 v26 v27 v28 v29 v30 v31 v32 v33 v34 v35 v36 v37 v38 v39 v40 v41 v42 v43 v44 v45 v46 v47 v48 v49 v50 v51 v52 v53 v54 v55 v56 v57 v58 v59 v60 v61 v62 v63 v64 v65 v66 v67 v68 v69 v70 v71 v72 v73 v74 v75 v76 v77 v78 v79 v80 v81 v82 v83 v84 v85 v86 v87 v88 v89 v90 v91 v92 v93 v94 v95 v96 v97 v98 v99 v100 v101 v102 v103 v104 v105 v106 v107 v108 v109 v110 v111 v112 v113 v114 v115 v116 v117 v118 v119 v120 v121 v122 v123 v124 v125 v126 v127 v128 v129 v130 v131 v132 v133 v134 v135 v136 v137 v138 v139 v140 v141 v142 v143 v144 v145 v146 v147 v148 v149 v150 v151 v152 v153 v154 v155 v156 v157 v158 v159 v160 v161 v162 v163 v164 v165 v166 v167 v168 v169 v170 v171 v172 v173 v174 v175 v176 => lab_ofX (o_law17_PatchUndo Q) [true, true, true, true, true, false, true, false] (cast (q_law17_PatchUndo_3 (Pu EE) (L_law17_PatchUndo_1 Q) (L_law17_PatchUndo_2 Q) (L_law17_PatchUndo_3 Q) Q v0 v1 v2 v3 v4 v5 v6 v7 v8 v9 v10 v11 v12 v13 v14 v15 v16 v17 v18 v19 v20 v21 v22 v23 v24 v25 v26 v27 v28 v29 v30 v31 v32 v33 v34 v35 v36 v37 v38 v39 v40 v41 v42 v43 v44 v45 v46 v47 v48 v49 v50 v51 v52 v53 v54 v55 v56 v57 v58 v59 v60 v61 v62 v63 v64 v65 v66 v67 v68 v69 v70 v71 v72 v73 v74 v75 v76 v77 v78 v79 v80 v81 v82 v83 v84 v85 v86 v87 v88 v89 v90 v91 v92 v93 v94 v95 v96 v97 v98 v99 v100 v101 v102 v103 v104 v105 v106 v107 v108 v109 v110 v111 v112 v113 v114 v115 v116 v117 v118 v119 v120 v121 v122 v123 v124 v125 v126 v127 v128 v129 v130 v131 v132 v133 v134 v135 v136 v137 v138 v139 v140 v141 v142 v143 v144 v145 v146 v147 v148 v149 v150 v151 v152 v153 v154 v155 v156 v157 v158 v159 v160 v161 v162 v163 v164 v165 v166 v167 v168 v169 v170 v171 v172 v173 v174 v175 v176 h) H)
end
end Go.Proofs.YtpimnaojhaeiiaaGreatDoor.VM
namespace Go.Proofs.YtpimnaojhaeiiaaGreatDoor.VM
open Go
set_option linter.unusedVariables false
set_option maxRecDepth 100000
noncomputable section
noncomputable def c_patch_Get : Code := match Tryz.f8.body with | some c => c | none => .skip
theorem b_patch_Get : Tryz.f8.body = some c_patch_Get := by kernel_rfl
theorem e_patch_Get : EE.fn.get 8 = some Tryz.f8 := by kernel_rfl
noncomputable def t_patch_Get_0 (p : Pr) (Q : V → Hp → Prop) (v0 : V) (h : Hp) : Prop :=
  p.alloc h 26 fun x1 h2 b3 =>
  p.build 62 [(0, v0)] fun x4 =>
  p.box h2 62 x4 fun x5 h6 b7 =>
  p.call 17 [x5] h6 fun x8 h9 =>
  p.call 17 [x5] h9 fun x10 h11 =>
  p.call 17 [x5] h11 fun x12 h13 =>
  p.build 26 [(0, x8), (1, x10), (2, x12)] fun x14 =>
  p.alloc h13 26 fun x15 h16 b17 =>
  p.store h16 26 x15 x14 fun h18 =>
  p.nilc x5 fun x19 =>
  p.faddr 62 x19 2 fun x20 =>
  p.load h18 4 x20 fun x21 =>
  p.gval x21 false (fun k22 =>
   k22 x5) fun x23 =>
  p.gval x21 false (fun k24 =>
   p.nilc x23 fun x25 =>
   k24 x25) fun x26 =>
  p.gval x21 false (fun k27 =>
   p.faddr 62 x26 1 fun x28 =>
   k27 x28) fun x29 =>
  p.gval x21 false (fun k30 =>
   p.load h18 3 x29 fun x31 =>
   k30 x31) fun x32 =>
  p.gval x21 false (fun k33 =>
   k33 v0) fun x34 =>
  p.gval x21 false (fun k35 =>
   p.lbui h18 #[22] .len [x34] fun x36 =>
   k35 x36) fun x37 =>
  p.gval x21 false (fun k38 =>
   p.bin .neq 3 false false x32 x37 fun x39 =>
   k38 x39) fun x40 =>
  p.pick x21 (some (.bool true)) (some x40) fun x41 =>
  p.cond x41
  (fun _ =>
   p.build 26 [] fun x42 =>
   p.store h18 26 x1 x42 fun h43 =>
   p.load h43 26 x1 fun x44 =>
   Q (.tup [x44, (.bool false)]) h43)
  (fun _ =>
   p.load h18 26 x15 fun x45 =>
   p.store h18 26 x1 x45 fun h46 =>
   p.load h46 26 x1 fun x47 =>
   Q (.tup [x47, (.bool true)]) h46)
theorem q_patch_Get_0 (p : Pr) (Q : V → Hp → Prop) (v0 : V) (h : Hp) : t_patch_Get_0 p Q v0 h = KAt p EE (cutOf []) (fun _ _ _ _ => False) c_patch_Get [] [] (finK p Tryz.f8 Q) [v0, u0, u0, u0, u0, u0, u0, u0, u0, u0, u0, u0, u0, u0, u0, u0, u0, u0, u0, u0, u0, u0, u0, u0, u0, u0, u0, u0, u0, u0, u0] h [] := by kernel_rfl
theorem a_patch_Get {Q : V → Hp → Prop} {v0 : V} {h : Hp} (H : t_patch_Get_0 (Pu EE) Q v0 h) : Ans EE 8 [v0] h Q :=
  ans_of (by kernel_rfl) e_patch_Get b_patch_Get (by kernel_rfl) (lab_ofX (fun _ _ _ _ h => h.elim) [] (cast (q_patch_Get_0 (Pu EE) Q v0 h) H))
noncomputable def c_patch_Put : Code := match Tryz.f9.body with | some c => c | none => .skip
theorem b_patch_Put : Tryz.f9.body = some c_patch_Put := by kernel_rfl
theorem e_patch_Put : EE.fn.get 9 = some Tryz.f9 := by kernel_rfl
noncomputable def L_patch_Put_1 (Q : V → Hp → Prop) (v3 v14 v15 v16 : V) (h : Hp) : Prop := ∀ v0 v1 v2 v4 v5 v6 v7 v8 v9 v10 v11 v12 v13 v17 v18 v19 v20 v21 v22 v23 v24 v25 v26 v27 v28 v29 v30 v31 : V, Lab EE Tryz.f9 c_patch_Put Q [false, true, false, true, true] [v0, v1, v2, v3, v4, v5, v6, v7, v8, v9, v10, v11, v12, v13, v14, v15, v16, v17, v18, v19, v20, v21, v22, v23, v24, v25, v26, v27, v28, v29, v30, v31] h []
noncomputable def X_patch_Put (l1 : V → V → V → V → Hp → Prop) : Lb := fun π s h d => match d with
  | [] => bif eqB [false, true, false, true, true] π then l1 (nth s 3) (nth s 14) (nth s 15) (nth s 16) h else False
  | _ => False
theorem o_patch_Put (Q : V → Hp → Prop) : ∀ π s h d, X_patch_Put (L_patch_Put_1 Q) π s h d → s.length = (Tryz.f9).ntmps → Lab EE Tryz.f9 c_patch_Put Q π s h d := by
  intro π s h d hx hl
  have hl : s.length = 32 := hl
  rw [nth_all hl]
  cases d with
  | cons _ _ => exact hx.elim
  | nil =>
    simp only [X_patch_Put] at hx
    cases hk : eqB [false, true, false, true, true] π with
    | true =>
      rw [hk, cond_true] at hx
      rw [← eqB_eq hk]
      exact hx (nth s 0) (nth s 1) (nth s 2) (nth s 4) (nth s 5) (nth s 6) (nth s 7) (nth s 8) (nth s 9) (nth s 10) (nth s 11) (nth s 12) (nth s 13) (nth s 17) (nth s 18) (nth s 19) (nth s 20) (nth s 21) (nth s 22) (nth s 23) (nth s 24) (nth s 25) (nth s 26) (nth s 27) (nth s 28) (nth s 29) (nth s 30) (nth s 31)
    | false =>
    rw [hk, cond_false] at hx
    exact hx.elim
noncomputable def t_patch_Put_0 (p : Pr) (l1 : V → V → V → V → Hp → Prop) (Q : V → Hp → Prop) (v0 : V) (h : Hp) : Prop :=
  p.box h 26 v0 fun x1 h2 b3 =>
  p.faddr 26 x1 0 fun x4 =>
  p.load h2 24 x4 fun x5 =>
  p.faddr 26 x1 1 fun x6 =>
  p.load h2 24 x6 fun x7 =>
  p.faddr 26 x1 2 fun x8 =>
  p.load h2 24 x8 fun x9 =>
  p.bsl h2 64 3 [(0, x5), (1, x7), (2, x9)] fun x10 h11 b12 =>
  p.lbui h11 #[64] .len [x10] fun x13 =>
  l1 .nils x10 x13 (.int .i64 0) h11
theorem q_patch_Put_0 (p : Pr) (l1 : V → V → V → V → Hp → Prop) (Q : V → Hp → Prop) (v0 : V) (h : Hp) : t_patch_Put_0 p l1 Q v0 h = KAt p EE (cutOf [[false, true, false, true, true]]) (X_patch_Put l1) c_patch_Put [] [] (finK p Tryz.f9 Q) [v0, u0, u0, u0, u0, u0, u0, u0, u0, u0, u0, u0, u0, u0, u0, u0, u0, u0, u0, u0, u0, u0, u0, u0, u0, u0, u0, u0, u0, u0, u0, u0] h [] := by kernel_rfl
theorem a_patch_Put {Q : V → Hp → Prop} {v0 : V} {h : Hp} (H : t_patch_Put_0 (Pu EE) (L_patch_Put_1 Q) Q v0 h) : Ans EE 9 [v0] h Q :=
  ans_of (by kernel_rfl) e_patch_Put b_patch_Put (by kernel_rfl) (lab_ofX (o_patch_Put Q) [] (cast (q_patch_Put_0 (Pu EE) (L_patch_Put_1 Q) Q v0 h) H))
noncomputable def t_patch_Put_1 (p : Pr) (l1 : V → V → V → V → Hp → Prop) (Q : V → Hp → Prop) (v3 v14 v15 v16 : V) (h : Hp) : Prop :=
  p.bin .lss 3 false false v16 v15 fun x1 =>
  p.cond x1
  (fun _ =>
   p.iaddr 64 v14 v16 fun x2 =>
   p.load h 24 x2 fun x3 =>
   p.call 18 [x3] h fun x4 h5 =>
   p.extr x4 0 fun x6 =>
   p.extr x4 1 fun x7 =>
   p.un .not x7 fun x8 =>
   p.cond x8
   (fun _ =>
    Q .nils h5)
   (fun _ =>
    p.ebui h5 #[22, 22] .append [v3, x6] fun x9 h10 =>
    p.bin .add 3 false true v16 (.int .i64 1) fun x11 =>
    l1 x9 v14 v15 x11 h10))
  (fun _ =>
   Q v3 h)
theorem q_patch_Put_1 (p : Pr) (l1 : V → V → V → V → Hp → Prop) (Q : V → Hp → Prop) (v0 v1 v2 v3 v4 v5 v6 v7 v8 v9 v10 v11 v12 v13 v14 v15 v16 v17 v18 v19 v20 v21 v22 v23 v24 v25 v26 v27 v28 v29 v30 v31 : V) (h : Hp) : t_patch_Put_1 p l1 Q v3 v14 v15 v16 h = KAt p EE (cutOf [[false, true, false, true, true]]) (X_patch_Put l1) c_patch_Put [] [true, true, false, true, false] (finK p Tryz.f9 Q) [v0, v1, v2, v3, v4, v5, v6, v7, v8, v9, v10, v11, v12, v13, v14, v15, v16, v17, v18, v19, v20, v21, v22, v23, v24, v25, v26, v27, v28, v29, v30, v31] h [] := by kernel_rfl
theorem r_patch_Put_1 {Q : V → Hp → Prop} {v3 v14 v15 v16 : V} {h : Hp} (H : t_patch_Put_1 (Pu EE) (L_patch_Put_1 Q) Q v3 v14 v15 v16 h) : L_patch_Put_1 Q v3 v14 v15 v16 h :=
  fun v0 v1 v2 v4 v5 v6 v7 v8 v9 v10 v11 v12 v13 v17 v18 v19 v20 v21 v22 v23 v24 v25 v26 v27 v28 v29 v30 v31 => lab_ofX (o_patch_Put Q) [true, true, false, true, false] (cast (q_patch_Put_1 (Pu EE) (L_patch_Put_1 Q) Q v0 v1 v2 v3 v4 v5 v6 v7 v8 v9 v10 v11 v12 v13 v14 v15 v16 v17 v18 v19 v20 v21 v22 v23 v24 v25 v26 v27 v28 v29 v30 v31 h) H)
noncomputable def c_patch_put : Code := match Tryz.f18.body with | some c => c | none => .skip
theorem b_patch_put : Tryz.f18.body = some c_patch_put := by kernel_rfl
theorem e_patch_put : EE.fn.get 18 = some Tryz.f18 := by kernel_rfl
noncomputable def L_patch_put_1 (Q : V → Hp → Prop) (v4 v10 v11 v12 : V) (h : Hp) : Prop := ∀ v0 v1 v2 v3 v5 v6 v7 v8 v9 v13 v14 v15 v16 v17 v18 v19 v20 v21 v22 v23 v24 v25 v26 v27 v28 v29 v30 v31 v32 v33 v34 v35 v36 v37 v38 v39 v40 v41 v42 v43 v44 v45 v46 v47 v48 v49 v50 v51 v52 v53 v54 v55 v56 v57 : V, Lab EE Tryz.f18 c_patch_put Q [false, true, false, true, true] [v0, v1, v2, v3, v4, v5, v6, v7, v8, v9, v10, v11, v12, v13, v14, v15, v16, v17, v18, v19, v20, v21, v22, v23, v24, v25, v26, v27, v28, v29, v30, v31, v32, v33, v34, v35, v36, v37, v38, v39, v40, v41, v42, v43, v44, v45, v46, v47, v48, v49, v50, v51, v52, v53, v54, v55, v56, v57] h []
noncomputable def X_patch_put (l1 : V → V → V → V → Hp → Prop) : Lb := fun π s h d => match d with
  | [] => bif eqB [false, true, false, true, true] π then l1 (nth s 4) (nth s 10) (nth s 11) (nth s 12) h else False
  | _ => False
theorem o_patch_put (Q : V → Hp → Prop) : ∀ π s h d, X_patch_put (L_patch_put_1 Q) π s h d → s.length = (Tryz.f18).ntmps → Lab EE Tryz.f18 c_patch_put Q π s h d := by
  intro π s h d hx hl
  have hl : s.length = 58 := hl
  rw [nth_all hl]
  cases d with
  | cons _ _ => exact hx.elim
  | nil =>
    simp only [X_patch_put] at hx
    cases hk : eqB [false, true, false, true, true] π with
    | true =>
      rw [hk, cond_true] at hx
      rw [← eqB_eq hk]
      exact hx (nth s 0) (nth s 1) (nth s 2) (nth s 3) (nth s 5) (nth s 6) (nth s 7) (nth s 8) (nth s 9) (nth s 13) (nth s 14) (nth s 15) (nth s 16) (nth s 17) (nth s 18) (nth s 19) (nth s 20) (nth s 21) (nth s 22) (nth s 23) (nth s 24) (nth s 25) (nth s 26) (nth s 27) (nth s 28) (nth s 29) (nth s 30) (nth s 31) (nth s 32) (nth s 33) (nth s 34) (nth s 35) (nth s 36) (nth s 37) (nth s 38) (nth s 39) (nth s 40) (nth s 41) (nth s 42) (nth s 43) (nth s 44) (nth s 45) (nth s 46) (nth s 47) (nth s 48) (nth s 49) (nth s 50) (nth s 51) (nth s 52) (nth s 53) (nth s 54) (nth s 55) (nth s 56) (nth s 57)
    | false =>
    rw [hk, cond_false] at hx
    exact hx.elim
noncomputable def t_patch_put_0 (p : Pr) (l1 : V → V → V → V → Hp → Prop) (Q : V → Hp → Prop) (v0 : V) (h : Hp) : Prop :=
  p.lbui h #[24] .len [v0] fun x1 =>
  p.call 27 [x1] h fun x2 h3 =>
  p.lbui h3 #[24] .len [v0] fun x4 =>
  l1 x2 v0 x4 (.int .i64 0) h3
theorem q_patch_put_0 (p : Pr) (l1 : V → V → V → V → Hp → Prop) (Q : V → Hp → Prop) (v0 : V) (h : Hp) : t_patch_put_0 p l1 Q v0 h = KAt p EE (cutOf [[false, true, false, true, true]]) (X_patch_put l1) c_patch_put [] [] (finK p Tryz.f18 Q) [v0, u0, u0, u0, u0, u0, u0, u0, u0, u0, u0, u0, u0, u0, u0, u0, u0, u0, u0, u0, u0, u0, u0, u0, u0, u0, u0, u0, u0, u0, u0, u0, u0, u0, u0, u0, u0, u0, u0, u0, u0, u0, u0, u0, u0, u0, u0, u0, u0, u0, u0, u0, u0, u0, u0, u0, u0, u0] h [] := by kernel_rfl
theorem a_patch_put {Q : V → Hp → Prop} {v0 : V} {h : Hp} (H : t_patch_put_0 (Pu EE) (L_patch_put_1 Q) Q v0 h) : Ans EE 18 [v0] h Q :=
  ans_of (by kernel_rfl) e_patch_put b_patch_put (by kernel_rfl) (lab_ofX (o_patch_put Q) [] (cast (q_patch_put_0 (Pu EE) (L_patch_put_1 Q) Q v0 h) H))
noncomputable def t_patch_put_1 (p : Pr) (l1 : V → V → V → V → Hp → Prop) (Q : V → Hp → Prop) (v4 v10 v11 v12 : V) (h : Hp) : Prop :=
  p.bin .lss 3 false false v12 v11 fun x1 =>
  p.cond x1
  (fun _ =>
   p.iaddr 24 v10 v12 fun x2 =>
   p.load h 28 x2 fun x3 =>
   p.alloc h 28 fun x4 h5 b6 =>
   p.store h5 28 x4 x3 fun h7 =>
   p.faddr 28 x4 0 fun x8 =>
   p.load h7 3 x8 fun x9 =>
   p.faddr 28 x4 2 fun x10 =>
   p.load h7 3 x10 fun x11 =>
   p.faddr 28 x4 3 fun x12 =>
   p.load h7 3 x12 fun x13 =>
   p.faddr 28 x4 4 fun x14 =>
   p.load h7 3 x14 fun x15 =>
   p.lbui h7 #[3, 3, 3, 3] .min [x9, x11, x13, x15] fun x16 =>
   p.bin .lss 3 false true x16 (.int .i64 0) fun x17 =>
   p.cond x17
   (fun _ =>
    Q (.tup [.nils, (.bool false)]) h7)
   (fun _ =>
    p.faddr 28 x4 0 fun x18 =>
    p.load h7 3 x18 fun x19 =>
    p.call 27 [x19] h7 fun x20 h21 =>
    p.ebui h21 #[22, 22] .append [v4, x20] fun x22 h23 =>
    p.faddr 28 x4 1 fun x24 =>
    p.load h23 9 x24 fun x25 =>
    p.call 28 [x25] h23 fun x26 h27 =>
    p.ebui h27 #[22, 22] .append [x22, x26] fun x28 h29 =>
    p.faddr 28 x4 2 fun x30 =>
    p.load h29 3 x30 fun x31 =>
    p.call 27 [x31] h29 fun x32 h33 =>
    p.ebui h33 #[22, 22] .append [x28, x32] fun x34 h35 =>
    p.faddr 28 x4 3 fun x36 =>
    p.load h35 3 x36 fun x37 =>
    p.call 27 [x37] h35 fun x38 h39 =>
    p.ebui h39 #[22, 22] .append [x34, x38] fun x40 h41 =>
    p.faddr 28 x4 4 fun x42 =>
    p.load h41 3 x42 fun x43 =>
    p.call 27 [x43] h41 fun x44 h45 =>
    p.ebui h45 #[22, 22] .append [x40, x44] fun x46 h47 =>
    p.faddr 28 x4 5 fun x48 =>
    p.load h47 9 x48 fun x49 =>
    p.call 28 [x49] h47 fun x50 h51 =>
    p.ebui h51 #[22, 22] .append [x46, x50] fun x52 h53 =>
    p.bin .add 3 false true v12 (.int .i64 1) fun x54 =>
    l1 x52 v10 v11 x54 h53))
  (fun _ =>
   Q (.tup [v4, (.bool true)]) h)
theorem q_patch_put_1 (p : Pr) (l1 : V → V → V → V → Hp → Prop) (Q : V → Hp → Prop) (v0 v1 v2 v3 v4 v5 v6 v7 v8 v9 v10 v11 v12 v13 v14 v15 v16 v17 v18 v19 v20 v21 v22 v23 v24 v25 v26 v27 v28 v29 v30 v31 v32 v33 v34 v35 v36 v37 v38 v39 v40 v41 v42 v43 v44 v45 v46 v47 v48 v49 v50 v51 v52 v53 v54 v55 v56 v57 : V) (h : Hp) : t_patch_put_1 p l1 Q v4 v10 v11 v12 h = KAt p EE (cutOf [[false, true, false, true, true]]) (X_patch_put l1) c_patch_put [] [true, true, false, true, false] (finK p Tryz.f18 Q) [v0, v1, v2, v3, v4, v5, v6, v7, v8, v9, v10, v11, v12, v13, v14, v15, v16, v17, v18, v19, v20, v21, v22, v23, v24, v25, v26, v27, v28, v29, v30, v31, v32, v33, v34, v35, v36, v37, v38, v39, v40, v41, v42, v43, v44, v45, v46, v47, v48, v49, v50, v51, v52, v53, v54, v55, v56, v57] h [] := by kernel_rfl
theorem r_patch_put_1 {Q : V → Hp → Prop} {v4 v10 v11 v12 : V} {h : Hp} (H : t_patch_put_1 (Pu EE) (L_patch_put_1 Q) Q v4 v10 v11 v12 h) : L_patch_put_1 Q v4 v10 v11 v12 h :=
  fun v0 v1 v2 v3 v5 v6 v7 v8 v9 v13 v14 v15 v16 v17 v18 v19 v20 v21 v22 v23 v24 v25 v26 v27 v28 v29 v30 v31 v32 v33 v34 v35 v36 v37 v38 v39 v40 v41 v42 v43 v44 v45 v46 v47 v48 v49 v50 v51 v52 v53 v54 v55 v56 v57 => lab_ofX (o_patch_put Q) [true, true, false, true, false] (cast (q_patch_put_1 (Pu EE) (L_patch_put_1 Q) Q v0 v1 v2 v3 v4 v5 v6 v7 v8 v9 v10 v11 v12 v13 v14 v15 v16 v17 v18 v19 v20 v21 v22 v23 v24 v25 v26 v27 v28 v29 v30 v31 v32 v33 v34 v35 v36 v37 v38 v39 v40 v41 v42 v43 v44 v45 v46 v47 v48 v49 v50 v51 v52 v53 v54 v55 v56 v57 h) H)
noncomputable def c_patch_steps : Code := match Tryz.f17.body with | some c => c | none => .skip
theorem b_patch_steps : Tryz.f17.body = some c_patch_steps := by kernel_rfl
theorem e_patch_steps : EE.fn.get 17 = some Tryz.f17 := by kernel_rfl
noncomputable def L_patch_steps_1 (Q : V → Hp → Prop) (v0 v3 v4 v5 v11 v12 : V) (h : Hp) : Prop := ∀ v1 v2 v6 v7 v8 v9 v10 v13 v14 v15 v16 v17 v18 v19 v20 v21 v22 v23 v24 v25 v26 v27 v28 v29 v30 v31 v32 v33 v34 v35 : V, Lab EE Tryz.f17 c_patch_steps Q [false, true, false, true, true, true] [v0, v1, v2, v3, v4, v5, v6, v7, v8, v9, v10, v11, v12, v13, v14, v15, v16, v17, v18, v19, v20, v21, v22, v23, v24, v25, v26, v27, v28, v29, v30, v31, v32, v33, v34, v35] h []
noncomputable def X_patch_steps (l1 : V → V → V → V → V → V → Hp → Prop) : Lb := fun π s h d => match d with
  | [] => bif eqB [false, true, false, true, true, true] π then l1 (nth s 0) (nth s 3) (nth s 4) (nth s 5) (nth s 11) (nth s 12) h else False
  | _ => False
theorem o_patch_steps (Q : V → Hp → Prop) : ∀ π s h d, X_patch_steps (L_patch_steps_1 Q) π s h d → s.length = (Tryz.f17).ntmps → Lab EE Tryz.f17 c_patch_steps Q π s h d := by
  intro π s h d hx hl
  have hl : s.length = 36 := hl
  rw [nth_all hl]
  cases d with
  | cons _ _ => exact hx.elim
  | nil =>
    simp only [X_patch_steps] at hx
    cases hk : eqB [false, true, false, true, true, true] π with
    | true =>
      rw [hk, cond_true] at hx
      rw [← eqB_eq hk]
      exact hx (nth s 1) (nth s 2) (nth s 6) (nth s 7) (nth s 8) (nth s 9) (nth s 10) (nth s 13) (nth s 14) (nth s 15) (nth s 16) (nth s 17) (nth s 18) (nth s 19) (nth s 20) (nth s 21) (nth s 22) (nth s 23) (nth s 24) (nth s 25) (nth s 26) (nth s 27) (nth s 28) (nth s 29) (nth s 30) (nth s 31) (nth s 32) (nth s 33) (nth s 34) (nth s 35)
    | false =>
    rw [hk, cond_false] at hx
    exact hx.elim
noncomputable def t_patch_steps_0 (p : Pr) (l1 : V → V → V → V → V → V → Hp → Prop) (Q : V → Hp → Prop) (v0 : V) (h : Hp) : Prop :=
  p.callv (.fn (.func 25) [v0] []) [] h fun x1 h2 =>
  l1 v0 (.fn (.func 25) [v0] []) (.fn (.func 26) [v0] []) .nils x1 (.int .i64 0) h2
theorem q_patch_steps_0 (p : Pr) (l1 : V → V → V → V → V → V → Hp → Prop) (Q : V → Hp → Prop) (v0 : V) (h : Hp) : t_patch_steps_0 p l1 Q v0 h = KAt p EE (cutOf [[false, true, false, true, true, true]]) (X_patch_steps l1) c_patch_steps [] [] (finK p Tryz.f17 Q) [v0, u0, u0, u0, u0, u0, u0, u0, u0, u0, u0, u0, u0, u0, u0, u0, u0, u0, u0, u0, u0, u0, u0, u0, u0, u0, u0, u0, u0, u0, u0, u0, u0, u0, u0, u0] h [] := by kernel_rfl
theorem a_patch_steps {Q : V → Hp → Prop} {v0 : V} {h : Hp} (H : t_patch_steps_0 (Pu EE) (L_patch_steps_1 Q) Q v0 h) : Ans EE 17 [v0] h Q :=
  ans_of (by kernel_rfl) e_patch_steps b_patch_steps (by kernel_rfl) (lab_ofX (o_patch_steps Q) [] (cast (q_patch_steps_0 (Pu EE) (L_patch_steps_1 Q) Q v0 h) H))
noncomputable def t_patch_steps_1 (p : Pr) (l1 : V → V → V → V → V → V → Hp → Prop) (Q : V → Hp → Prop) (v0 v3 v4 v5 v11 v12 : V) (h : Hp) : Prop :=
  p.bin .lss 3 false false v12 v11 fun x1 =>
  p.cond x1
  (fun _ =>
   p.nilc v0 fun x2 =>
   p.faddr 62 x2 2 fun x3 =>
   p.load h 4 x3 fun x4 =>
   p.cond x4
   (fun _ =>
    Q .nils h)
   (fun _ =>
    p.callv v3 [] h fun x5 h6 =>
    p.callv v4 [] h6 fun x7 h8 =>
    p.callv v3 [] h8 fun x9 h10 =>
    p.callv v3 [] h10 fun x11 h12 =>
    p.callv v3 [] h12 fun x13 h14 =>
    p.callv v4 [] h14 fun x15 h16 =>
    p.build 28 [(0, x5), (1, x7), (2, x9), (3, x11), (4, x13), (5, x15)] fun x17 =>
    p.bsl h16 24 1 [(0, x17)] fun x18 h19 b20 =>
    p.ebui h19 #[24, 24] .append [v5, x18] fun x21 h22 =>
    p.bin .add 3 false true v12 (.int .i64 1) fun x23 =>
    l1 v0 v3 v4 x21 v11 x23 h22))
  (fun _ =>
   Q v5 h)
theorem q_patch_steps_1 (p : Pr) (l1 : V → V → V → V → V → V → Hp → Prop) (Q : V → Hp → Prop) (v0 v1 v2 v3 v4 v5 v6 v7 v8 v9 v10 v11 v12 v13 v14 v15 v16 v17 v18 v19 v20 v21 v22 v23 v24 v25 v26 v27 v28 v29 v30 v31 v32 v33 v34 v35 : V) (h : Hp) : t_patch_steps_1 p l1 Q v0 v3 v4 v5 v11 v12 h = KAt p EE (cutOf [[false, true, false, true, true, true]]) (X_patch_steps l1) c_patch_steps [] [true, true, true, false, true, false] (finK p Tryz.f17 Q) [v0, v1, v2, v3, v4, v5, v6, v7, v8, v9, v10, v11, v12, v13, v14, v15, v16, v17, v18, v19, v20, v21, v22, v23, v24, v25, v26, v27, v28, v29, v30, v31, v32, v33, v34, v35] h [] := by kernel_rfl
theorem r_patch_steps_1 {Q : V → Hp → Prop} {v0 v3 v4 v5 v11 v12 : V} {h : Hp} (H : t_patch_steps_1 (Pu EE) (L_patch_steps_1 Q) Q v0 v3 v4 v5 v11 v12 h) : L_patch_steps_1 Q v0 v3 v4 v5 v11 v12 h :=
  fun v1 v2 v6 v7 v8 v9 v10 v13 v14 v15 v16 v17 v18 v19 v20 v21 v22 v23 v24 v25 v26 v27 v28 v29 v30 v31 v32 v33 v34 v35 => lab_ofX (o_patch_steps Q) [true, true, true, false, true, false] (cast (q_patch_steps_1 (Pu EE) (L_patch_steps_1 Q) Q v0 v1 v2 v3 v4 v5 v6 v7 v8 v9 v10 v11 v12 v13 v14 v15 v16 v17 v18 v19 v20 v21 v22 v23 v24 v25 v26 v27 v28 v29 v30 v31 v32 v33 v34 v35 h) H)
noncomputable def c_code_Reader_Num : Code := match Tryz.f25.body with | some c => c | none => .skip
theorem b_code_Reader_Num : Tryz.f25.body = some c_code_Reader_Num := by kernel_rfl
theorem e_code_Reader_Num : EE.fn.get 25 = some Tryz.f25 := by kernel_rfl
noncomputable def t_code_Reader_Num_0 (p : Pr) (Q : V → Hp → Prop) (v0 : V) (h : Hp) : Prop :=
  p.call 43 [v0, (.fn (.func 44) [] [])] h fun x1 h2 =>
  Q x1 h2
theorem q_code_Reader_Num_0 (p : Pr) (Q : V → Hp → Prop) (v0 : V) (h : Hp) : t_code_Reader_Num_0 p Q v0 h = KAt p EE (cutOf []) (fun _ _ _ _ => False) c_code_Reader_Num [] [] (finK p Tryz.f25 Q) [v0, u0, u0, u0, u0] h [] := by kernel_rfl
theorem a_code_Reader_Num {Q : V → Hp → Prop} {v0 : V} {h : Hp} (H : t_code_Reader_Num_0 (Pu EE) Q v0 h) : Ans EE 25 [v0] h Q :=
  ans_of (by kernel_rfl) e_code_Reader_Num b_code_Reader_Num (by kernel_rfl) (lab_ofX (fun _ _ _ _ h => h.elim) [] (cast (q_code_Reader_Num_0 (Pu EE) Q v0 h) H))
noncomputable def c_code_Reader_Text : Code := match Tryz.f26.body with | some c => c | none => .skip
theorem b_code_Reader_Text : Tryz.f26.body = some c_code_Reader_Text := by kernel_rfl
theorem e_code_Reader_Text : EE.fn.get 26 = some Tryz.f26 := by kernel_rfl
noncomputable def t_code_Reader_Text_0 (p : Pr) (Q : V → Hp → Prop) (v0 : V) (h : Hp) : Prop :=
  p.call 45 [v0, (.fn (.func 46) [] [])] h fun x1 h2 =>
  Q x1 h2
theorem q_code_Reader_Text_0 (p : Pr) (Q : V → Hp → Prop) (v0 : V) (h : Hp) : t_code_Reader_Text_0 p Q v0 h = KAt p EE (cutOf []) (fun _ _ _ _ => False) c_code_Reader_Text [] [] (finK p Tryz.f26 Q) [v0, u0, u0, u0, u0] h [] := by kernel_rfl
theorem a_code_Reader_Text {Q : V → Hp → Prop} {v0 : V} {h : Hp} (H : t_code_Reader_Text_0 (Pu EE) Q v0 h) : Ans EE 26 [v0] h Q :=
  ans_of (by kernel_rfl) e_code_Reader_Text b_code_Reader_Text (by kernel_rfl) (lab_ofX (fun _ _ _ _ h => h.elim) [] (cast (q_code_Reader_Text_0 (Pu EE) Q v0 h) H))
noncomputable def c_code_take_int : Code := match Tryz.f43.body with | some c => c | none => .skip
theorem b_code_take_int : Tryz.f43.body = some c_code_take_int := by kernel_rfl
theorem e_code_take_int : EE.fn.get 43 = some Tryz.f43 := by kernel_rfl
noncomputable def t_code_take_int_0 (p : Pr) (Q : V → Hp → Prop) (v0 v1 : V) (h : Hp) : Prop :=
  p.nilc v0 fun x1 =>
  p.faddr 62 x1 0 fun x2 =>
  p.load h 22 x2 fun x3 =>
  p.nilc v0 fun x4 =>
  p.faddr 62 x4 1 fun x5 =>
  p.load h 3 x5 fun x6 =>
  p.callv v1 [x3, x6] h fun x7 h8 =>
  p.extr x7 0 fun x9 =>
  p.extr x7 1 fun x10 =>
  p.extr x7 2 fun x11 =>
  p.un .not x11 fun x12 =>
  p.gval x12 false (fun k13 =>
   k13 v0) fun x14 =>
  p.gval x12 false (fun k15 =>
   p.nilc x14 fun x16 =>
   k15 x16) fun x17 =>
  p.gval x12 false (fun k18 =>
   p.faddr 62 x17 2 fun x19 =>
   k18 x19) fun x20 =>
  p.gval x12 false (fun k21 =>
   p.load h8 4 x20 fun x22 =>
   k21 x22) fun x23 =>
  p.pick x12 (some (.bool true)) (some x23) fun x24 =>
  p.cond x24
  (fun _ =>
   p.nilc v0 fun x25 =>
   p.faddr 62 x25 2 fun x26 =>
   p.store h8 4 x26 (.bool true) fun h27 =>
   Q (.int .i64 0) h27)
  (fun _ =>
   p.nilc v0 fun x28 =>
   p.faddr 62 x28 1 fun x29 =>
   p.store h8 3 x29 x10 fun h30 =>
   Q x9 h30)
theorem q_code_take_int_0 (p : Pr) (Q : V → Hp → Prop) (v0 v1 : V) (h : Hp) : t_code_take_int_0 p Q v0 v1 h = KAt p EE (cutOf []) (fun _ _ _ _ => False) c_code_take_int [] [] (finK p Tryz.f43 Q) [v0, v1, u0, u0, u0, u0, u0, u0, u0, u0, u0, u0, u0, u0, u0, u0, u0, u0, u0, u0, u0, u0, u0, u0, u0, u0, u0, u0, u0, u0, u0, u0, u0, u0, u0, u0, u0, u0, u0, u0] h [] := by kernel_rfl
theorem a_code_take_int {Q : V → Hp → Prop} {v0 v1 : V} {h : Hp} (H : t_code_take_int_0 (Pu EE) Q v0 v1 h) : Ans EE 43 [v0, v1] h Q :=
  ans_of (by kernel_rfl) e_code_take_int b_code_take_int (by kernel_rfl) (lab_ofX (fun _ _ _ _ h => h.elim) [] (cast (q_code_take_int_0 (Pu EE) Q v0 v1 h) H))
noncomputable def c_code_take_string : Code := match Tryz.f45.body with | some c => c | none => .skip
theorem b_code_take_string : Tryz.f45.body = some c_code_take_string := by kernel_rfl
theorem e_code_take_string : EE.fn.get 45 = some Tryz.f45 := by kernel_rfl
noncomputable def t_code_take_string_0 (p : Pr) (Q : V → Hp → Prop) (v0 v1 : V) (h : Hp) : Prop :=
  p.nilc v0 fun x1 =>
  p.faddr 62 x1 0 fun x2 =>
  p.load h 22 x2 fun x3 =>
  p.nilc v0 fun x4 =>
  p.faddr 62 x4 1 fun x5 =>
  p.load h 3 x5 fun x6 =>
  p.callv v1 [x3, x6] h fun x7 h8 =>
  p.extr x7 0 fun x9 =>
  p.extr x7 1 fun x10 =>
  p.extr x7 2 fun x11 =>
  p.un .not x11 fun x12 =>
  p.gval x12 false (fun k13 =>
   k13 v0) fun x14 =>
  p.gval x12 false (fun k15 =>
   p.nilc x14 fun x16 =>
   k15 x16) fun x17 =>
  p.gval x12 false (fun k18 =>
   p.faddr 62 x17 2 fun x19 =>
   k18 x19) fun x20 =>
  p.gval x12 false (fun k21 =>
   p.load h8 4 x20 fun x22 =>
   k21 x22) fun x23 =>
  p.pick x12 (some (.bool true)) (some x23) fun x24 =>
  p.cond x24
  (fun _ =>
   p.nilc v0 fun x25 =>
   p.faddr 62 x25 2 fun x26 =>
   p.store h8 4 x26 (.bool true) fun h27 =>
   Q (.str []) h27)
  (fun _ =>
   p.nilc v0 fun x28 =>
   p.faddr 62 x28 1 fun x29 =>
   p.store h8 3 x29 x10 fun h30 =>
   Q x9 h30)
theorem q_code_take_string_0 (p : Pr) (Q : V → Hp → Prop) (v0 v1 : V) (h : Hp) : t_code_take_string_0 p Q v0 v1 h = KAt p EE (cutOf []) (fun _ _ _ _ => False) c_code_take_string [] [] (finK p Tryz.f45 Q) [v0, v1, u0, u0, u0, u0, u0, u0, u0, u0, u0, u0, u0, u0, u0, u0, u0, u0, u0, u0, u0, u0, u0, u0, u0, u0, u0, u0, u0, u0, u0, u0, u0, u0, u0, u0, u0, u0, u0, u0] h [] := by kernel_rfl
theorem a_code_take_string {Q : V → Hp → Prop} {v0 v1 : V} {h : Hp} (H : t_code_take_string_0 (Pu EE) Q v0 v1 h) : Ans EE 45 [v0, v1] h Q :=
  ans_of (by kernel_rfl) e_code_take_string b_code_take_string (by kernel_rfl) (lab_ofX (fun _ _ _ _ h => h.elim) [] (cast (q_code_take_string_0 (Pu EE) Q v0 v1 h) H))
noncomputable def c_code_Get : Code := match Tryz.f44.body with | some c => c | none => .skip
theorem b_code_Get : Tryz.f44.body = some c_code_Get := by kernel_rfl
theorem e_code_Get : EE.fn.get 44 = some Tryz.f44 := by kernel_rfl
noncomputable def L_code_Get_1 (Q : V → Hp → Prop) (v0 v1 v4 v11 : V) (h : Hp) : Prop := ∀ v2 v3 v5 v6 v7 v8 v9 v10 v12 v13 v14 v15 v16 v17 v18 v19 v20 v21 v22 v23 v24 v25 v26 v27 v28 v29 v30 v31 v32 v33 v34 v35 v36 v37 v38 v39 v40 v41 v42 v43 v44 v45 v46 v47 : V, Lab EE Tryz.f44 c_code_Get Q [false, true, false, true, true] [v0, v1, v2, v3, v4, v5, v6, v7, v8, v9, v10, v11, v12, v13, v14, v15, v16, v17, v18, v19, v20, v21, v22, v23, v24, v25, v26, v27, v28, v29, v30, v31, v32, v33, v34, v35, v36, v37, v38, v39, v40, v41, v42, v43, v44, v45, v46, v47] h []
noncomputable def X_code_Get (l1 : V → V → V → V → Hp → Prop) : Lb := fun π s h d => match d with
  | [] => bif eqB [false, true, false, true, true] π then l1 (nth s 0) (nth s 1) (nth s 4) (nth s 11) h else False
  | _ => False
theorem o_code_Get (Q : V → Hp → Prop) : ∀ π s h d, X_code_Get (L_code_Get_1 Q) π s h d → s.length = (Tryz.f44).ntmps → Lab EE Tryz.f44 c_code_Get Q π s h d := by
  intro π s h d hx hl
  have hl : s.length = 48 := hl
  rw [nth_all hl]
  cases d with
  | cons _ _ => exact hx.elim
  | nil =>
    simp only [X_code_Get] at hx
    cases hk : eqB [false, true, false, true, true] π with
    | true =>
      rw [hk, cond_true] at hx
      rw [← eqB_eq hk]
      exact hx (nth s 2) (nth s 3) (nth s 5) (nth s 6) (nth s 7) (nth s 8) (nth s 9) (nth s 10) (nth s 12) (nth s 13) (nth s 14) (nth s 15) (nth s 16) (nth s 17) (nth s 18) (nth s 19) (nth s 20) (nth s 21) (nth s 22) (nth s 23) (nth s 24) (nth s 25) (nth s 26) (nth s 27) (nth s 28) (nth s 29) (nth s 30) (nth s 31) (nth s 32) (nth s 33) (nth s 34) (nth s 35) (nth s 36) (nth s 37) (nth s 38) (nth s 39) (nth s 40) (nth s 41) (nth s 42) (nth s 43) (nth s 44) (nth s 45) (nth s 46) (nth s 47)
    | false =>
    rw [hk, cond_false] at hx
    exact hx.elim
noncomputable def t_code_Get_0 (p : Pr) (l1 : V → V → V → V → Hp → Prop) (Q : V → Hp → Prop) (v0 v1 : V) (h : Hp) : Prop :=
  p.bin .lss 3 false true v1 (.int .i64 0) fun x1 =>
  p.cond x1
  (fun _ =>
   Q (.tup [(.int .i64 0), (.int .i64 0), (.bool false)]) h)
  (fun _ =>
   l1 v0 v1 (.int .i64 0) (.int .i64 0) h)
theorem q_code_Get_0 (p : Pr) (l1 : V → V → V → V → Hp → Prop) (Q : V → Hp → Prop) (v0 v1 : V) (h : Hp) : t_code_Get_0 p l1 Q v0 v1 h = KAt p EE (cutOf [[false, true, false, true, true]]) (X_code_Get l1) c_code_Get [] [] (finK p Tryz.f44 Q) [v0, v1, u0, u0, u0, u0, u0, u0, u0, u0, u0, u0, u0, u0, u0, u0, u0, u0, u0, u0, u0, u0, u0, u0, u0, u0, u0, u0, u0, u0, u0, u0, u0, u0, u0, u0, u0, u0, u0, u0, u0, u0, u0, u0, u0, u0, u0, u0] h [] := by kernel_rfl
theorem a_code_Get {Q : V → Hp → Prop} {v0 v1 : V} {h : Hp} (H : t_code_Get_0 (Pu EE) (L_code_Get_1 Q) Q v0 v1 h) : Ans EE 44 [v0, v1] h Q :=
  ans_of (by kernel_rfl) e_code_Get b_code_Get (by kernel_rfl) (lab_ofX (o_code_Get Q) [] (cast (q_code_Get_0 (Pu EE) (L_code_Get_1 Q) Q v0 v1 h) H))
noncomputable def t_code_Get_1 (p : Pr) (l1 : V → V → V → V → Hp → Prop) (Q : V → Hp → Prop) (v0 v1 v4 v11 : V) (h : Hp) : Prop :=
  p.bin .lss 3 false true v11 (.int .i64 9) fun x1 =>
  p.cond x1
  (fun _ =>
   p.lbui h #[22] .len [v0] fun x2 =>
   p.bin .sub 3 false false x2 v11 fun x3 =>
   p.bin .geq 3 false false v1 x3 fun x4 =>
   p.cond x4
   (fun _ =>
    Q (.tup [(.int .i64 0), (.int .i64 0), (.bool false)]) h)
   (fun _ =>
    p.bin .add 3 false false v1 v11 fun x5 =>
    p.iaddr 22 v0 x5 fun x6 =>
    p.load h 5 x6 fun x7 =>
    p.bin .and 5 false true x7 (.int .u8 127) fun x8 =>
    p.conv h 5 3 x8 fun x9 =>
    p.bin .mul 3 true false (.int .i64 7) v11 fun x10 =>
    p.bin .shl 3 false false x9 x10 fun x11 =>
    p.bin .or 3 false false v4 x11 fun x12 =>
    p.bin .gtr 5 false true x7 (.int .u8 127) fun x13 =>
    p.cond x13
    (fun _ =>
     p.bin .add 3 false true v11 (.int .i64 1) fun x14 =>
     l1 v0 v1 x12 x14 h)
    (fun _ =>
     p.bin .eql 5 false true x7 (.int .u8 0) fun x15 =>
     p.gval x15 true (fun k16 =>
      k16 v11) fun x17 =>
     p.gval x15 true (fun k18 =>
      p.bin .gtr 3 false true x17 (.int .i64 0) fun x19 =>
      k18 x19) fun x20 =>
     p.pick x15 (some x20) (some (.bool false)) fun x21 =>
     p.cond x21
     (fun _ =>
      Q (.tup [(.int .i64 0), (.int .i64 0), (.bool false)]) h)
     (fun _ =>
      p.bin .add 3 false false v1 v11 fun x22 =>
      p.bin .add 3 false true x22 (.int .i64 1) fun x23 =>
      Q (.tup [x12, x23, (.bool true)]) h))))
  (fun _ =>
   Q (.tup [(.int .i64 0), (.int .i64 0), (.bool false)]) h)
theorem q_code_Get_1 (p : Pr) (l1 : V → V → V → V → Hp → Prop) (Q : V → Hp → Prop) (v0 v1 v2 v3 v4 v5 v6 v7 v8 v9 v10 v11 v12 v13 v14 v15 v16 v17 v18 v19 v20 v21 v22 v23 v24 v25 v26 v27 v28 v29 v30 v31 v32 v33 v34 v35 v36 v37 v38 v39 v40 v41 v42 v43 v44 v45 v46 v47 : V) (h : Hp) : t_code_Get_1 p l1 Q v0 v1 v4 v11 h = KAt p EE (cutOf [[false, true, false, true, true]]) (X_code_Get l1) c_code_Get [] [true, true, false, true, false] (finK p Tryz.f44 Q) [v0, v1, v2, v3, v4, v5, v6, v7, v8, v9, v10, v11, v12, v13, v14, v15, v16, v17, v18, v19, v20, v21, v22, v23, v24, v25, v26, v27, v28, v29, v30, v31, v32, v33, v34, v35, v36, v37, v38, v39, v40, v41, v42, v43, v44, v45, v46, v47] h [] := by kernel_rfl
theorem r_code_Get_1 {Q : V → Hp → Prop} {v0 v1 v4 v11 : V} {h : Hp} (H : t_code_Get_1 (Pu EE) (L_code_Get_1 Q) Q v0 v1 v4 v11 h) : L_code_Get_1 Q v0 v1 v4 v11 h :=
  fun v2 v3 v5 v6 v7 v8 v9 v10 v12 v13 v14 v15 v16 v17 v18 v19 v20 v21 v22 v23 v24 v25 v26 v27 v28 v29 v30 v31 v32 v33 v34 v35 v36 v37 v38 v39 v40 v41 v42 v43 v44 v45 v46 v47 => lab_ofX (o_code_Get Q) [true, true, false, true, false] (cast (q_code_Get_1 (Pu EE) (L_code_Get_1 Q) Q v0 v1 v2 v3 v4 v5 v6 v7 v8 v9 v10 v11 v12 v13 v14 v15 v16 v17 v18 v19 v20 v21 v22 v23 v24 v25 v26 v27 v28 v29 v30 v31 v32 v33 v34 v35 v36 v37 v38 v39 v40 v41 v42 v43 v44 v45 v46 v47 h) H)
noncomputable def c_code_GetText : Code := match Tryz.f46.body with | some c => c | none => .skip
theorem b_code_GetText : Tryz.f46.body = some c_code_GetText := by kernel_rfl
theorem e_code_GetText : EE.fn.get 46 = some Tryz.f46 := by kernel_rfl
noncomputable def t_code_GetText_0 (p : Pr) (Q : V → Hp → Prop) (v0 v1 : V) (h : Hp) : Prop :=
  p.call 44 [v0, v1] h fun x1 h2 =>
  p.extr x1 0 fun x3 =>
  p.extr x1 1 fun x4 =>
  p.extr x1 2 fun x5 =>
  p.un .not x5 fun x6 =>
  p.gval x6 false (fun k7 =>
   k7 x3) fun x8 =>
  p.gval x6 false (fun k9 =>
   k9 v0) fun x10 =>
  p.gval x6 false (fun k11 =>
   p.lbui h2 #[22] .len [x10] fun x12 =>
   k11 x12) fun x13 =>
  p.gval x6 false (fun k14 =>
   k14 x4) fun x15 =>
  p.gval x6 false (fun k16 =>
   p.bin .sub 3 false false x13 x15 fun x17 =>
   k16 x17) fun x18 =>
  p.gval x6 false (fun k19 =>
   p.bin .gtr 3 false false x8 x18 fun x20 =>
   k19 x20) fun x21 =>
  p.pick x6 (some (.bool true)) (some x21) fun x22 =>
  p.cond x22
  (fun _ =>
   Q (.tup [(.str []), (.int .i64 0), (.bool false)]) h2)
  (fun _ =>
   p.bin .add 3 false false x4 x3 fun x23 =>
   p.slice 22 v0 (some x4) (some x23) none fun x24 =>
   p.conv h2 22 9 x24 fun x25 =>
   p.bin .add 3 false false x4 x3 fun x26 =>
   Q (.tup [x25, x26, (.bool true)]) h2)
theorem q_code_GetText_0 (p : Pr) (Q : V → Hp → Prop) (v0 v1 : V) (h : Hp) : t_code_GetText_0 p Q v0 v1 h = KAt p EE (cutOf []) (fun _ _ _ _ => False) c_code_GetText [] [] (finK p Tryz.f46 Q) [v0, v1, u0, u0, u0, u0, u0, u0, u0, u0, u0, u0, u0, u0, u0, u0, u0, u0, u0, u0, u0, u0, u0, u0, u0, u0, u0, u0, u0, u0, u0, u0, u0, u0, u0] h [] := by kernel_rfl
theorem a_code_GetText {Q : V → Hp → Prop} {v0 v1 : V} {h : Hp} (H : t_code_GetText_0 (Pu EE) Q v0 v1 h) : Ans EE 46 [v0, v1] h Q :=
  ans_of (by kernel_rfl) e_code_GetText b_code_GetText (by kernel_rfl) (lab_ofX (fun _ _ _ _ h => h.elim) [] (cast (q_code_GetText_0 (Pu EE) Q v0 v1 h) H))
noncomputable def c_code_PutText : Code := match Tryz.f28.body with | some c => c | none => .skip
theorem b_code_PutText : Tryz.f28.body = some c_code_PutText := by kernel_rfl
theorem e_code_PutText : EE.fn.get 28 = some Tryz.f28 := by kernel_rfl
noncomputable def t_code_PutText_0 (p : Pr) (Q : V → Hp → Prop) (v0 : V) (h : Hp) : Prop :=
  p.lbui h #[9] .len [v0] fun x1 =>
  p.call 27 [x1] h fun x2 h3 =>
  p.ebui h3 #[22, 9] .append [x2, v0] fun x4 h5 =>
  Q x4 h5
theorem q_code_PutText_0 (p : Pr) (Q : V → Hp → Prop) (v0 : V) (h : Hp) : t_code_PutText_0 p Q v0 h = KAt p EE (cutOf []) (fun _ _ _ _ => False) c_code_PutText [] [] (finK p Tryz.f28 Q) [v0, u0, u0, u0, u0, u0, u0, u0] h [] := by kernel_rfl
theorem a_code_PutText {Q : V → Hp → Prop} {v0 : V} {h : Hp} (H : t_code_PutText_0 (Pu EE) Q v0 h) : Ans EE 28 [v0] h Q :=
  ans_of (by kernel_rfl) e_code_PutText b_code_PutText (by kernel_rfl) (lab_ofX (fun _ _ _ _ h => h.elim) [] (cast (q_code_PutText_0 (Pu EE) Q v0 h) H))
noncomputable def c_r15_SamePatch : Code := match Tryz.f10.body with | some c => c | none => .skip
theorem b_r15_SamePatch : Tryz.f10.body = some c_r15_SamePatch := by kernel_rfl
theorem e_r15_SamePatch : EE.fn.get 10 = some Tryz.f10 := by kernel_rfl
noncomputable def t_r15_SamePatch_0 (p : Pr) (Q : V → Hp → Prop) (v0 v1 : V) (h : Hp) : Prop :=
  p.box h 26 v0 fun x1 h2 b3 =>
  p.box h2 26 v1 fun x4 h5 b6 =>
  p.faddr 26 x1 0 fun x7 =>
  p.load h5 24 x7 fun x8 =>
  p.faddr 26 x4 0 fun x9 =>
  p.load h5 24 x9 fun x10 =>
  p.call 11 [x8, x10] h5 fun x11 h12 =>
  p.gval x11 true (fun k13 =>
   p.faddr 26 x1 1 fun x14 =>
   k13 x14) fun x15 =>
  p.gval x11 true (fun k16 =>
   p.load h12 24 x15 fun x17 =>
   k16 x17) fun x18 =>
  p.gval x11 true (fun k19 =>
   p.faddr 26 x4 1 fun x20 =>
   k19 x20) fun x21 =>
  p.gval x11 true (fun k22 =>
   p.load h12 24 x21 fun x23 =>
   k22 x23) fun x24 =>
  p.geff x11 true (fun k25 =>
   p.call 11 [x18, x24] h12 fun x26 h27 =>
   k25 x26 h27) h12 fun x28 h29 =>
  p.pick x11 (some x28) (some (.bool false)) fun x30 =>
  p.gval x30 true (fun k31 =>
   p.faddr 26 x1 2 fun x32 =>
   k31 x32) fun x33 =>
  p.gval x30 true (fun k34 =>
   p.load h29 24 x33 fun x35 =>
   k34 x35) fun x36 =>
  p.gval x30 true (fun k37 =>
   p.faddr 26 x4 2 fun x38 =>
   k37 x38) fun x39 =>
  p.gval x30 true (fun k40 =>
   p.load h29 24 x39 fun x41 =>
   k40 x41) fun x42 =>
  p.geff x30 true (fun k43 =>
   p.call 11 [x36, x42] h29 fun x44 h45 =>
   k43 x44 h45) h29 fun x46 h47 =>
  p.pick x30 (some x46) (some (.bool false)) fun x48 =>
  Q x48 h47
theorem q_r15_SamePatch_0 (p : Pr) (Q : V → Hp → Prop) (v0 v1 : V) (h : Hp) : t_r15_SamePatch_0 p Q v0 v1 h = KAt p EE (cutOf []) (fun _ _ _ _ => False) c_r15_SamePatch [] [] (finK p Tryz.f10 Q) [v0, v1, u0, u0, u0, u0, u0, u0, u0, u0, u0, u0, u0, u0, u0, u0, u0, u0, u0, u0, u0, u0, u0, u0] h [] := by kernel_rfl
theorem a_r15_SamePatch {Q : V → Hp → Prop} {v0 v1 : V} {h : Hp} (H : t_r15_SamePatch_0 (Pu EE) Q v0 v1 h) : Ans EE 10 [v0, v1] h Q :=
  ans_of (by kernel_rfl) e_r15_SamePatch b_r15_SamePatch (by kernel_rfl) (lab_ofX (fun _ _ _ _ h => h.elim) [] (cast (q_r15_SamePatch_0 (Pu EE) Q v0 v1 h) H))
noncomputable def c_r15_SameSteps : Code := match Tryz.f11.body with | some c => c | none => .skip
theorem b_r15_SameSteps : Tryz.f11.body = some c_r15_SameSteps := by kernel_rfl
theorem e_r15_SameSteps : EE.fn.get 11 = some Tryz.f11 := by kernel_rfl
noncomputable def L_r15_SameSteps_1 (Q : V → Hp → Prop) (v0 v1 v5 : V) (h : Hp) : Prop := ∀ v2 v3 v4 v6 v7 v8 v9 v10 v11 v12 v13 v14 v15 v16 v17 v18 v19 v20 v21 v22 v23 v24 v25 : V, Lab EE Tryz.f11 c_r15_SameSteps Q [false, true, false, true, true] [v0, v1, v2, v3, v4, v5, v6, v7, v8, v9, v10, v11, v12, v13, v14, v15, v16, v17, v18, v19, v20, v21, v22, v23, v24, v25] h []
noncomputable def X_r15_SameSteps (l1 : V → V → V → Hp → Prop) : Lb := fun π s h d => match d with
  | [] => bif eqB [false, true, false, true, true] π then l1 (nth s 0) (nth s 1) (nth s 5) h else False
  | _ => False
theorem o_r15_SameSteps (Q : V → Hp → Prop) : ∀ π s h d, X_r15_SameSteps (L_r15_SameSteps_1 Q) π s h d → s.length = (Tryz.f11).ntmps → Lab EE Tryz.f11 c_r15_SameSteps Q π s h d := by
  intro π s h d hx hl
  have hl : s.length = 26 := hl
  rw [nth_all hl]
  cases d with
  | cons _ _ => exact hx.elim
  | nil =>
    simp only [X_r15_SameSteps] at hx
    cases hk : eqB [false, true, false, true, true] π with
    | true =>
      rw [hk, cond_true] at hx
      rw [← eqB_eq hk]
      exact hx (nth s 2) (nth s 3) (nth s 4) (nth s 6) (nth s 7) (nth s 8) (nth s 9) (nth s 10) (nth s 11) (nth s 12) (nth s 13) (nth s 14) (nth s 15) (nth s 16) (nth s 17) (nth s 18) (nth s 19) (nth s 20) (nth s 21) (nth s 22) (nth s 23) (nth s 24) (nth s 25)
    | false =>
    rw [hk, cond_false] at hx
    exact hx.elim
noncomputable def t_r15_SameSteps_0 (p : Pr) (l1 : V → V → V → Hp → Prop) (Q : V → Hp → Prop) (v0 v1 : V) (h : Hp) : Prop :=
  p.lbui h #[24] .len [v0] fun x1 =>
  p.lbui h #[24] .len [v1] fun x2 =>
  p.bin .neq 3 false false x1 x2 fun x3 =>
  p.cond x3
  (fun _ =>
   Q (.bool false) h)
  (fun _ =>
   l1 v0 v1 (.int .i64 0) h)
theorem q_r15_SameSteps_0 (p : Pr) (l1 : V → V → V → Hp → Prop) (Q : V → Hp → Prop) (v0 v1 : V) (h : Hp) : t_r15_SameSteps_0 p l1 Q v0 v1 h = KAt p EE (cutOf [[false, true, false, true, true]]) (X_r15_SameSteps l1) c_r15_SameSteps [] [] (finK p Tryz.f11 Q) [v0, v1, u0, u0, u0, u0, u0, u0, u0, u0, u0, u0, u0, u0, u0, u0, u0, u0, u0, u0, u0, u0, u0, u0, u0, u0] h [] := by kernel_rfl
theorem a_r15_SameSteps {Q : V → Hp → Prop} {v0 v1 : V} {h : Hp} (H : t_r15_SameSteps_0 (Pu EE) (L_r15_SameSteps_1 Q) Q v0 v1 h) : Ans EE 11 [v0, v1] h Q :=
  ans_of (by kernel_rfl) e_r15_SameSteps b_r15_SameSteps (by kernel_rfl) (lab_ofX (o_r15_SameSteps Q) [] (cast (q_r15_SameSteps_0 (Pu EE) (L_r15_SameSteps_1 Q) Q v0 v1 h) H))
noncomputable def t_r15_SameSteps_1 (p : Pr) (l1 : V → V → V → Hp → Prop) (Q : V → Hp → Prop) (v0 v1 v5 : V) (h : Hp) : Prop :=
  p.lbui h #[24] .len [v0] fun x1 =>
  p.bin .lss 3 false false v5 x1 fun x2 =>
  p.cond x2
  (fun _ =>
   p.iaddr 24 v0 v5 fun x3 =>
   p.load h 28 x3 fun x4 =>
   p.iaddr 24 v1 v5 fun x5 =>
   p.load h 28 x5 fun x6 =>
   p.bin .neq 28 false false x4 x6 fun x7 =>
   p.cond x7
   (fun _ =>
    Q (.bool false) h)
   (fun _ =>
    p.bin .add 3 false true v5 (.int .i64 1) fun x8 =>
    l1 v0 v1 x8 h))
  (fun _ =>
   Q (.bool true) h)
theorem q_r15_SameSteps_1 (p : Pr) (l1 : V → V → V → Hp → Prop) (Q : V → Hp → Prop) (v0 v1 v2 v3 v4 v5 v6 v7 v8 v9 v10 v11 v12 v13 v14 v15 v16 v17 v18 v19 v20 v21 v22 v23 v24 v25 : V) (h : Hp) : t_r15_SameSteps_1 p l1 Q v0 v1 v5 h = KAt p EE (cutOf [[false, true, false, true, true]]) (X_r15_SameSteps l1) c_r15_SameSteps [] [true, true, false, true, false] (finK p Tryz.f11 Q) [v0, v1, v2, v3, v4, v5, v6, v7, v8, v9, v10, v11, v12, v13, v14, v15, v16, v17, v18, v19, v20, v21, v22, v23, v24, v25] h [] := by kernel_rfl
theorem r_r15_SameSteps_1 {Q : V → Hp → Prop} {v0 v1 v5 : V} {h : Hp} (H : t_r15_SameSteps_1 (Pu EE) (L_r15_SameSteps_1 Q) Q v0 v1 v5 h) : L_r15_SameSteps_1 Q v0 v1 v5 h :=
  fun v2 v3 v4 v6 v7 v8 v9 v10 v11 v12 v13 v14 v15 v16 v17 v18 v19 v20 v21 v22 v23 v24 v25 => lab_ofX (o_r15_SameSteps Q) [true, true, false, true, false] (cast (q_r15_SameSteps_1 (Pu EE) (L_r15_SameSteps_1 Q) Q v0 v1 v2 v3 v4 v5 v6 v7 v8 v9 v10 v11 v12 v13 v14 v15 v16 v17 v18 v19 v20 v21 v22 v23 v24 v25 h) H)
end
end Go.Proofs.YtpimnaojhaeiiaaGreatDoor.VM
