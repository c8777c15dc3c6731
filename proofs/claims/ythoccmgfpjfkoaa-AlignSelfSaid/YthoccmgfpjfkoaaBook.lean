/- The walk of chequerlaw10.Book: the first sheet is tidy. Written by bookgen.py. -/
import Derived.Test.YthoccmgfpjfkoaaCopySheet
import Derived.Test.YthoccmgfpjfkoaaText
namespace Go.Proofs.Ythoccmgfpjfkoaa
open Go.RowKit

theorem eSheet : EInfo Try.prog 35 24 (.agg #[.string ⟨#[]⟩, .int .i64 0, .slice none 0 0]) 3 48 := ⟨Try.underlying35, by kernel_rfl, rfl, by decide, by decide⟩
/-- 'out = append(out, u)' where u is of several cells -/
theorem wpList_appN {P : Program} {T e : TypeId} {z : Value} {size bytes : Nat} {ops : Array Oper} {rest : List Oper} {o : Oper} {a : Act} {Q : Exit → Act → World → Prop} {w0 : World} {s x : Operand} {v : Value} {cs : Array Value} {n base G : Nat} {xs : List Value} (E : EInfo P T e z size bytes) (hgd : o.guard = none)
    (ho : o.op = .call { callee := .builtin .append, args := #[s, x], argTypes := #[T, T] }) (hown : w0.ownsRow base e size v n xs) (hs : a.eval s = v)
    (hx : a.eval x = .slice (some ⟨G, 0, none⟩) 1 1) (hG : w0.heap.size = G) (hcs : cs.size = size) (h1 : ∀ u ∈ cs.toList, u.oneCell' = true) (hbytes : (n + 1) * bytes ≤ 140737488355328) (hbase : base ≤ w0.heap.size)
    (h : ∀ v' w', w'.ownsRow base e size v' (n + 1) (xs ++ cs.toList) → w0.grownBy w' v.ownBlock → (v'.ownBlock = v.ownBlock ∨ v'.ownBlock = some (w0.heap.size + 1)) → wpList P ops Q rest (a.put o.dst v') w') :
    wpList P ops Q (o :: rest) a (w0.alloc (.cells cs e)) := by
  obtain ⟨ht, hinfo, hzs, hsz, hby0⟩ := E
  obtain ⟨i, hi, hz, hsize, hby⟩ := info_parts hinfo
  subst hG
  refine wpList_append_own_at (P := P) _ hgd s x T ho base e i z size bytes ht hi hz hsize hby hzs hsz v n xs hs (hown.alloc _) ⟨w0.heap.size, 0, none⟩ 1 1 cs.toList hx (by simp [hcs]) (fun j u hu => ?_) h1
    (len_of_bytes hby0 hbytes) hbytes (by simp; omega) fun v' w' h2 h3 _ h5 => h v' w' h2 (grown_trans' (grown_alloc _ _ _) h3) (by simpa using h5)
  have e1 : (⟨w0.heap.size, 0, none⟩ : Addr).add j = ⟨w0.heap.size, j, none⟩ := by unfold Addr.add; split <;> simp_all
  rw [e1]
  have := heap_alloc_new w0 (.cells cs e)
  simp only [World.cell?]
  rw [this]
  simpa using hu
theorem OwnRows.grown {W W' : World} {base base' : Nat} {v x : Value} {rs : List SRow} {e : TypeId} {size n : Nat} {xs : List Value} (h : OwnRows W base v rs) (hx : W.ownsRow base' e size x n xs) (h1 : e ≠ 26) (h2 : e ≠ 9) (hg : W.grownBy W' x.ownBlock) : OwnRows W' base v rs :=
  ⟨own_other h.top (apart_kind hx h.top h1) hg, fun r hr => own_other (h.row r hr) (apart_kind hx (h.row r hr) h2) hg, h.apart⟩

theorem OwnRows.grid'' {W : World} {base : Nat} {rs : List SRow} {A : Option Addr} {n c : Nat} (h : OwnRows W base (.slice A n c) rs) (hn : rs.length = n) (hm : Mild rs) : Grid W A rs := by
  subst hn
  exact h.grid hm.1 fun r hr => (hm.2 r hr).1

def Tidy (rs : List SRow) (cols : Nat) : Prop := Wide rs cols ∧ ∀ r ∈ rs, ∀ s ∈ r.l, s.size ≤ 40
theorem Tidy.mild {rs : List SRow} {cols : Nat} (h : Tidy rs cols) (hl : rs.length ≤ 1000) (hc : cols ≤ 1000) : Mild rs := ⟨hl, fun r hr => ⟨by rw [h.1 r hr]; exact hc, fun s hs => by have := h.2 r hr s hs; omega⟩⟩
theorem Tidy.app {rs : List SRow} {cols : Nat} {r : SRow} (h : Tidy rs cols) (h1 : r.l.length = cols) (h2 : ∀ s ∈ r.l, s.size ≤ 40) : Tidy (rs ++ [r]) cols :=
  ⟨fun x hx => by rcases List.mem_append.1 hx with hx | hx
                  · exact h.1 x hx
                  · rw [List.mem_singleton] at hx; subst hx; exact h1,
   fun x hx => by rcases List.mem_append.1 hx with hx | hx
                  · exact h.2 x hx
                  · rw [List.mem_singleton] at hx; subst hx; exact h2⟩
/-- the first sheet -/
def FirstOk (W : World) (base : Nat) (xs : List Value) (cols rows : Nat) : Prop :=
  ∃ name B d rs, xs.take 3 = [.string name, .int .i64 cols, .slice B rows d] ∧ OwnRows W base (.slice B rows d) rs ∧ List.length rs = rows ∧ Tidy rs cols
def BookPost (w : World) (cols rows : Nat) (e : Ending) (w' : World) : Prop :=
  ∃ g n c name B d rs, e = .returned (.agg #[.slice (some ⟨g, 0, none⟩) n c]) ∧ 0 < n ∧ w'.cell? ⟨g, 0, none⟩ = some (.string name) ∧ w'.cell? ⟨g, 1, none⟩ = some (.int .i64 cols) ∧ w'.cell? ⟨g, 2, none⟩ = some (.slice B rows d) ∧
    Grid w' B rs ∧ List.length rs = rows ∧ Tidy rs cols ∧ Below w.heap.size w w'
theorem book_store {W : World} {O : Nat} {a v : Value} (h : W.heap[O]? = some (.cells #[a] 37 (0, 0))) : (W.setCell ⟨O, 0, none⟩ v).heap[O]? = some (.cells #[v] 37 (0, 0)) := by
  simp [World.setCell, Array.getElem?_modify, h]
theorem book1 {w1 : World} {g : Nat} {a : Value} {t : TypeId} (z : w1.heap[g]? = some (.cells #[a] t (0, 0))) : w1.cell? ⟨g, 0, none⟩ = some a ∧ w1.frozen? ⟨g, 0, none⟩ = false := ⟨by simp [World.cell?, z], by simp [World.frozen?, z]⟩

set_option maxRecDepth 100000 in
set_option maxHeartbeats 8000000 in
theorem book_any (w : World) (X : Option Addr) (ns : List UInt8) (cx shape : Nat) (hX : At1 vByte w X ns) (hl : ns.length ≤ 100) (hs : shape < 256) :
    Calls Try.prog 22 #[.slice X ns.length cx, .int .u8 shape] w (BookPost w (1 + shape / 3 % 4) (1 + shape / 12 % 5)) := by
  have HX := Lib.hid hX
  clear hX
  have e1 : IntKind.i64.wrap (shape : Int) = shape := by simp [IntKind.wrap, IntKind.signed, IntKind.bits]; omega
  obtain ⟨sn, hsn⟩ : ∃ sn : Nat, sn = 1 + shape % 3 := ⟨_, rfl⟩
  obtain ⟨cn, hcn⟩ : ∃ cn : Nat, cn = 1 + shape / 3 % 4 := ⟨_, rfl⟩
  obtain ⟨rn, hrn⟩ : ∃ rn : Nat, rn = 1 + shape / 12 % 5 := ⟨_, rfl⟩
  obtain ⟨s64, hs64⟩ : ∃ s64 : Nat, s64 = shape / 64 := ⟨_, rfl⟩
  have q1 : 1 + (shape : Int) % 3 = (sn : Int) := by omega
  have q2 : 1 + (shape : Int) / 3 % 4 = (cn : Int) := by omega
  have q3 : 1 + (shape : Int) / 12 % 5 = (rn : Int) := by omega
  have q4 : (shape : Int) / 64 = (s64 : Int) := by omega
  have hsn1 : 1 ≤ sn ∧ sn ≤ 3 := by omega
  have hcn1 : 1 ≤ cn ∧ cn ≤ 4 := by omega
  have hrn1 : rn ≤ 5 := by omega
  have hs641 : s64 ≤ 3 := by omega
  rw [← hcn, ← hrn]
  clear hsn hcn hrn hs64
  have hmk := fun W => run_make_row' (P := Try.prog) 26 9 (.string ⟨#[]⟩) 16 Try.underlying26 (by kernel_rfl) rfl .i64 .i64 cn (by omega) (by omega) W
  go_enter Try.func22, Try.ntmps22
  go_wp2
  obtain ⟨W, hW⟩ : ∃ W, W = (w.alloc (.cells #[.slice none 0 0] 37)).alloc (.cells #[.slice none 0 0] 37) := ⟨_, rfl⟩
  have hs0 := heap_alloc_new w (.cells #[.slice none 0 0] 37)
  have hs1 := heap_alloc_new (w.alloc (.cells #[.slice none 0 0] 37)) (.cells #[.slice none 0 0] 37)
  rw [World.size_alloc] at hs1
  have hR : W.heap[w.heap.size]? = some (.cells #[.slice none 0 0] 37 (0, 0)) := by rw [hW]; exact (Below.heap_alloc _ _ _ (by simp)).trans hs0
  have hB : W.heap[w.heap.size + 1]? = some (.cells #[.slice none 0 0] 37 (0, 0)) := by rw [hW]; exact hs1
  have hsW : W.heap.size = w.heap.size + 2 := by rw [hW]; simp
  have hbW : Below w.heap.size w W := by rw [hW]; exact ((Below.refl _ _).alloc (Nat.le_refl _) _).alloc (by simp) _
  rw [← hW]
  clear hW hs0 hs1
  go_loopw [6, 7, 8, 9, 10, 11] (fun at_ i _ _ _ _ wr => ∃ (k t : Nat) (v : Value) (xs : List Value), k ≤ sn ∧ i = .int .i64 k ∧ at_ = .int .i64 t ∧ t ≤ ns.length ∧ wr.heap[w.heap.size]? = some (.cells #[.slice none 0 0] 37 (0, 0)) ∧ wr.heap[w.heap.size + 1]? = some (.cells #[v] 37 (0, 0)) ∧ wr.ownsRow (w.heap.size + 2) 24 3 v k xs ∧ Hid (0 < k → FirstOk wr (w.heap.size + 2) xs cn rn) ∧ w.heap.size + 2 ≤ wr.heap.size ∧ Below w.heap.size w wr) (fun _ i _ _ _ _ _ => sn - (intOf i).toNat)
  case atStart => exact ⟨0, 0, _, [], Nat.zero_le _, rfl, rfl, Nat.zero_le _, hR, hB, World.ownsRow_nil _ _ _ _, fun h => absurd h (by omega), by omega, hbW⟩
  case round =>
    clear hR hB hsW hbW
    obtain ⟨k, t, v, xs, hk, rfl, rfl, ht, hR, hB, hown, HF, hsz, hb⟩ := hrel
    by_cases hlt : k < sn
    · obtain ⟨p, hp⟩ : ∃ p : Nat, p = s64 * k := ⟨_, rfl⟩
      have hp6 : p ≤ 6 := by
        rw [hp]
        have h1 : s64 * k ≤ 3 * k := Nat.mul_le_mul_right _ hs641
        omega
      have q5 : (s64 : Int) * (k : Int) = (p : Int) := by rw [hp]; simp
      clear hp
      obtain ⟨x, hx⟩ := byte_num (z := 65 + (k : Int) + (p : Int)) (by omega) (by omega)
      have hcv := run_str1 (P := Try.prog) Try.underlying46 Try.underlying5 Try.underlying9 wr x _ hx
      clear hx
      have HOWN := Lib.hid hown
      clear hown
      go_wp2
      clear hcv
      obtain ⟨W1, hW1⟩ : ∃ W1, W1 = (wr.alloc (.cells #[.int .u8 (65 + (k : Int) + (p : Int))] 5)).alloc (.cells #[.string ⟨#[x]⟩, .int .i64 cn, .slice none 0 0] 24) := ⟨_, rfl⟩
      obtain ⟨S, hSe⟩ : ∃ S, wr.heap.size + 1 = S := ⟨_, rfl⟩
      have hS1 : W1.heap[S]? = some (.cells #[.string ⟨#[x]⟩, .int .i64 cn, .slice none 0 0] 24 (0, 0)) := by
        rw [hW1, ← hSe]
        have := heap_alloc_new (wr.alloc (.cells #[.int .u8 (65 + (k : Int) + (p : Int))] 5)) (.cells #[.string ⟨#[x]⟩, .int .i64 cn, .slice none 0 0] 24)
        rwa [World.size_alloc] at this
      have hb1 : Below wr.heap.size wr W1 := by rw [hW1]; exact ((Below.refl _ _).alloc (Nat.le_refl _) _).alloc (by simp) _
      have hSl : wr.heap.size ≤ S := by omega
      rw [← hW1, hSe]
      generalize (⟨#[x]⟩ : ByteArray) = nm at *
      clear hW1 hSe q1 q4 q5
      generalize hwi : wr = wi at *
      clear hwi
      go_loopw [6, 9, 10, 11] (fun at_ r _ _ wr => ∃ (j t : Nat) (vs : Value) (rs : List SRow), j ≤ rn ∧ r = .int .i64 j ∧ at_ = .int .i64 t ∧ t ≤ ns.length ∧ wr.heap[S]? = some (.cells #[.string nm, .int .i64 cn, vs] 24 (0, 0)) ∧ OwnRows wr wi.heap.size vs rs ∧ Hid (rs.length = j ∧ Tidy rs cn) ∧ wi.heap.size ≤ wr.heap.size ∧ Below wi.heap.size wi wr) (fun _ r _ _ _ => rn - (intOf r).toNat)
      case atStart => exact ⟨0, t, _, [], Nat.zero_le _, rfl, rfl, ht, hS1, OwnRows.nil, ⟨rfl, fun r hr => by simp at hr, fun r hr => by simp at hr⟩, hb1.size, hb1⟩
      case round =>
        clear hS1 hb1 ht
        obtain ⟨j, t, vs, rs, hj, rfl, rfl, ht, hS, HOW, HT, hsz2, hb2⟩ := hrel
        obtain ⟨s0, s1, s2⟩ := sheet3 hS
        by_cases hlj : j < rn
        · go_wp2
          have hmk1 := hmk wr
          obtain ⟨W2, hW2⟩ : ∃ W2, W2 = wr.alloc (.cells (madeCells #[.string ⟨#[]⟩] cn) 9) := ⟨_, rfl⟩
          obtain ⟨g, hge⟩ : ∃ g, wr.heap.size = g := ⟨_, rfl⟩
          have hrow : W2.ownsRow g 9 1 (.slice (some ⟨g, 0, none⟩) cn cn) cn ((List.replicate cn (⟨#[]⟩ : ByteArray)).map vStr) := by
            rw [hW2, ← hge, List.map_replicate]
            exact own_made (z := .string ⟨#[]⟩) (Nat.le_refl _) (by unfold maxLen; omega)
          have eb : Below wr.heap.size wr W2 := by rw [hW2]; exact (Below.refl _ _).alloc (Nat.le_refl _) _
          rw [← hW2, hge]
          clear hW2 hmk1 s0 s1 s2
          have HOW1 := Lib.hid HOW
          have HS1 := Lib.hid hS
          have HB2 := Lib.hid hb2
          have hgz : wi.heap.size ≤ g := by omega
          clear HOW hS hb2
          generalize hwo : wr = wo at *
          clear hwo
          have hSo : S < wo.heap.size := (Array.getElem?_eq_some_iff.1 HS1.out).1
          go_loopw [6, 11] (fun at_ c wr => ∃ (i t : Nat) (l : List ByteArray), i ≤ cn ∧ c = .int .i64 i ∧ at_ = .int .i64 t ∧ t ≤ ns.length ∧ wr.ownsRow g 9 1 (.slice (some ⟨g, 0, none⟩) cn cn) cn (l.map vStr) ∧ Hid (∀ s ∈ l, s.size ≤ 40) ∧ Below wo.heap.size wo wr) (fun _ c _ => cn - (intOf c).toNat)
          case atStart => exact ⟨0, t, _, Nat.zero_le _, rfl, rfl, ht, hrow, fun s hs => by have := List.eq_of_mem_replicate hs; subst this; decide, eb⟩
          case round =>
            clear hrow eb ht
            obtain ⟨i, t, l, hi, rfl, rfl, ht, hrow, HL, hb3⟩ := hrel
            have hll : l.length = cn := by have := hrow.1; simpa using this
            have HLL := Lib.hid hll
            have hsb3 := hb3.size
            obtain ⟨s0, s1, s2⟩ := sheet3 ((hb3.block S hSo).trans HS1.out)
            by_cases hcond : i < cn ∧ t < ns.length
            · obtain ⟨hc1, hc2⟩ := hcond
              have hbx := hb.trans ((HB2.out.trans (hb3.mono hsz2)).mono (by omega))
              obtain ⟨adx, hxe, hcx⟩ := (HX.out.below hbx).at_ hc2
              subst hxe
              generalize ns[t] = u at hcx
              obtain ⟨q, hq⟩ : ∃ q : Nat, u.toNat = q := ⟨_, rfl⟩
              have hq256 : q < 256 := by rw [← hq]; exact u.toNat_lt
              have hcx2 : wr.cell? (adx.add t) = some (.int .u8 (q : Int)) := by rw [← hq]; exact hcx
              have e1 : IntKind.i64.wrap (q : Int) = q := by simp [IntKind.wrap, IntKind.signed, IntKind.bits]; omega
              have htz : (t : Int) < (ns.length : Int) := by omega
              have HROW := Lib.hid hrow
              clear hcx hq hll hrow
              go_wp2_with fail
              refine (text_any wr q hq256).mono ?_
              rintro e w7 ⟨s, rfl, hss, hb7⟩
              have hrow7 := own_below HROW.out hb7
              obtain ⟨d1, d3, _⟩ := own_cell hrow7 (i := i) (x := vStr (l[i]'(by rw [HLL.out]; exact hc1))) (by rw [List.getElem?_map, List.getElem?_eq_getElem (by rw [HLL.out]; exact hc1)]; rfl)
              have hb8 := hb3.trans (hb7.mono hsb3)
              clear s0 s1 s2
              go_wp2
              go_roundw
              case rel =>
                refine ⟨i + 1, t + 1, l.set i s, by omega, by go_num, by go_num, by omega, by rw [List.map_set]; exact own_set hrow7 _, ?_, hb8.setCell (p := ⟨g, i, none⟩) (by show wo.heap.size ≤ g; omega) _⟩
                intro y hy
                rcases List.mem_or_eq_of_mem_set hy with hy | rfl
                · exact HL.out y hy
                · exact hss
              case measure => first | (simp [intOf]; done) | (simp [intOf]; omega)
            · have HOW3 := HOW1.out.keep hb3
              have hS3 := (hb3.block S hSo).trans HS1.out
              have hb4 := HB2.out.trans (hb3.mono hsz2)
              have hsb4 := hb4.size
              have hrow3 : wr.ownsRow wi.heap.size 9 1 (vRow ⟨some ⟨g, 0, none⟩, l, cn⟩) l.length (l.map vStr) := by
                have := own_base hrow hgz
                unfold vRow
                rw [hll]
                exact this
              have hap := apart_new (W := wo) (x := vRow ⟨some ⟨g, 0, none⟩, l, cn⟩) (G := g) HOW1.out (by omega) (fun k hk => by simp [vRow, Value.ownBlock] at hk; omega)
              obtain ⟨f0, f1, f2⟩ := sheet3f hS3
              have hrl : rs.length ≤ 5 := by have := HT.out.1; omega
              have HROW := Lib.hid hrow3
              have HAP := Lib.hid hap
              have vrow : vRow ⟨some ⟨g, 0, none⟩, l, cn⟩ = .slice (some ⟨g, 0, none⟩) cn cn := by unfold vRow; rw [hll]
              have VROW := Lib.hid vrow
              clear hrow hrow3 hap hll vrow
              by_cases hc1 : i < cn
              · have hc2 : ¬ (t : Int) < (ns.length : Int) := by omega
                clear hcond
                go_wp2_with (at_builtin; refine wpList_app1 eRow rfl rfl HOW3.top rfl rfl (by first | rfl | simp) rfl (by omega) (by omega) ?_; intro v1 w1 hown1 hg1 hk1; obtain ⟨A9, c9, rfl, _⟩ := own_form hown1; have hS4 := grown_block HOW3.top hS3 (by decide) hg1; obtain ⟨y0, y1, y2⟩ := sheet3 hS4; obtain ⟨z0, z1, z2⟩ := sheet3f hS4)
                go_roundw
                case rel =>
                  have hown2 : w1.ownsRow wi.heap.size 26 1 (.slice A9 (rs.length + 1) c9) (rs.length + 1) (rs.map vRow ++ [vRow ⟨some ⟨g, 0, none⟩, l, cn⟩]) := by rw [VROW.out]; exact hown1
                  have HOW4 := HOW3.append HROW.out HAP.out hown2 hg1
                  refine ⟨j + 1, t, _, rs ++ [⟨some ⟨g, 0, none⟩, l, cn⟩], by omega, by go_num, rfl, ht, sheet_store2 hS4, HOW4.setCell hS4 (by decide) (by decide) _, ⟨by simp [HT.out.1], HT.out.2.app HLL.out HL.out⟩, ?_, (below_grown hb4 HOW3.top hg1 (Nat.le_refl _) hsb4).setCell (p := ⟨S, 2, none⟩) hSl _⟩
                  have := hg1.size
                  simp
                  omega
                case measure => first | (simp [intOf]; done) | (simp [intOf]; omega)
              · clear hcond
                go_wp2_with (at_builtin; refine wpList_app1 eRow rfl rfl HOW3.top rfl rfl (by first | rfl | simp) rfl (by omega) (by omega) ?_; intro v1 w1 hown1 hg1 hk1; obtain ⟨A9, c9, rfl, _⟩ := own_form hown1; have hS4 := grown_block HOW3.top hS3 (by decide) hg1; obtain ⟨y0, y1, y2⟩ := sheet3 hS4; obtain ⟨z0, z1, z2⟩ := sheet3f hS4)
                go_roundw
                case rel =>
                  have hown2 : w1.ownsRow wi.heap.size 26 1 (.slice A9 (rs.length + 1) c9) (rs.length + 1) (rs.map vRow ++ [vRow ⟨some ⟨g, 0, none⟩, l, cn⟩]) := by rw [VROW.out]; exact hown1
                  have HOW4 := HOW3.append HROW.out HAP.out hown2 hg1
                  refine ⟨j + 1, t, _, rs ++ [⟨some ⟨g, 0, none⟩, l, cn⟩], by omega, by go_num, rfl, ht, sheet_store2 hS4, HOW4.setCell hS4 (by decide) (by decide) _, ⟨by simp [HT.out.1], HT.out.2.app HLL.out HL.out⟩, ?_, (below_grown hb4 HOW3.top hg1 (Nat.le_refl _) hsb4).setCell (p := ⟨S, 2, none⟩) hSl _⟩
                  have := hg1.size
                  simp
                  omega
                case measure => first | (simp [intOf]; done) | (simp [intOf]; omega)
        · obtain rfl : j = rn := by omega
          obtain ⟨A1, c1, hv⟩ := HOW.form
          rw [HT.out.1] at hv
          subst hv
          have hown2 := own_below HOWN.out hb2
          have hB2 := (hb2.block (w.heap.size + 1) (by omega)).trans hB
          have hR2 := (hb2.block w.heap.size (by omega)).trans hR
          obtain ⟨b0, b1⟩ := book1 hB2
          have hbb := hb.trans (hb2.mono (by omega))
          have hszz : w.heap.size + 2 ≤ wr.heap.size := by omega
          have HF2 : Hid (0 < k → FirstOk wr (w.heap.size + 2) xs cn j) := fun h => by
            obtain ⟨name, B, d, rs', e1, e2, e3, e4⟩ := HF.out h
            exact ⟨name, B, d, rs', e1, e2.keep hb2, e3, e4⟩
          go_wp2_with (at_builtin; refine wpList_appN (cs := #[.string nm, .int .i64 cn, .slice A1 j c1]) eSheet rfl rfl hown2 rfl rfl (by first | rfl | simp) rfl (by intro u hu; simp at hu; rcases hu with rfl | rfl | rfl <;> rfl) (by omega) (by omega) ?_; intro v1 w1 hown1 hg1 hk1; obtain ⟨A9, c9, rfl, _⟩ := own_form hown1; have hB3 := grown_block hown2 hB2 (by decide) hg1; have hR3 := grown_block hown2 hR2 (by decide) hg1; obtain ⟨y0, y1⟩ := book1 hB3)
          go_roundw
          case rel =>
            have hg1s := hg1.size
            refine ⟨k + 1, t, _, xs ++ [.string nm, .int .i64 cn, .slice A1 j c1], by omega, by go_num, rfl, ht, (blkSet (by show w.heap.size ≠ w.heap.size + 1; omega)).trans hR3, book_store hB3, ownsRow_setCell_other hown1 (own_ne_kind hown1 hB3 (by decide)) _, ?_, by simp; omega, (below_grown hbb hown2 hg1 (by omega) (by omega)).setCell (p := ⟨w.heap.size + 1, 0, none⟩) (by show w.heap.size ≤ w.heap.size + 1; omega) _⟩
            intro _
            by_cases hk0 : 0 < k
            · obtain ⟨name, B, d, rs', e1, e2, e3, e4⟩ := HF2.out hk0
              have hxl : xs.length = k * 3 := hown2.1
              exact ⟨name, B, d, rs', by rw [List.take_append_of_le_length (by omega)]; exact e1, (e2.grown hown2 (by decide) (by decide) hg1).setCell hB3 (by decide) (by decide) _, e3, e4⟩
            · have hxl : xs.length = k * 3 := hown2.1
              have hx0 : xs = [] := List.eq_nil_of_length_eq_zero (by omega)
              exact ⟨nm, A1, c1, rs, by rw [hx0]; rfl, ((HOW.base_ (by omega)).grown hown2 (by decide) (by decide) hg1).setCell hB3 (by decide) (by decide) _, HT.out.1, HT.out.2⟩
          case measure => first | (simp [intOf]; done) | (simp [intOf]; omega)
    · obtain rfl : k = sn := by omega
      obtain ⟨name, B, d, rs, f1, f2, f3, f4⟩ := HF.out (by omega)
      have hgv : ∃ g c, v = .slice (some ⟨g, 0, none⟩) k c := by
        rcases hown.2 with ⟨_, h0⟩ | ⟨g, cap, cur, hv, _⟩
        · omega
        · exact ⟨g, cap, hv⟩
      obtain ⟨g, c, rfl⟩ := hgv
      obtain ⟨b0, b1⟩ := book1 hB
      obtain ⟨r0, r1⟩ := book1 hR
      have cells : ∀ (j : Nat) (u : Value), xs[j]? = some u → wr.cell? ⟨g, j, none⟩ = some u := fun j u hu => by
        have := hown.cells (g := g) rfl j u hu
        rwa [show (⟨g, 0, none⟩ : Addr).add j = ⟨g, j, none⟩ by unfold Addr.add; split <;> simp_all] at this
      have tk : ∀ (j : Nat), j < 3 → xs[j]? = [Value.string name, .int .i64 cn, .slice B rn d][j]? := fun j hj => by rw [← f1, List.getElem?_take, if_pos hj]
      have k0 := cells 0 _ (tk 0 (by omega))
      have k1 := cells 1 _ (tk 1 (by omega))
      have k2 := cells 2 _ (tk 2 (by omega))
      have hgR : g ≠ w.heap.size := fun e => own_ne_kind hown hR (by decide) (by rw [← e]; rfl)
      have hcs : ∀ p : Addr, p.block ≠ w.heap.size → (wr.setCell ⟨w.heap.size, 0, none⟩ (.slice (some ⟨g, 0, none⟩) k c)).cell? p = wr.cell? p := fun p hp => cellSet hp
      have hG := (f2.setCell (o := 0) hR (by decide) (by decide) (.slice (some ⟨g, 0, none⟩) k c)).grid'' f3 (f4.mild (by omega) (by omega))
      have hz := book_store (v := .slice (some ⟨g, 0, none⟩) k c) hR
      obtain ⟨z0, _⟩ := book1 hz
      clear tk cells
      go_wp2
      refine bodyPost_ret (v := .agg #[.slice (some ⟨g, 0, none⟩) k c]) ?_ rfl ?_
      · simp [results, Try.f22, go_sem, z0]
      · exact ⟨g, k, c, name, B, d, rs, rfl, by omega, (hcs _ hgR).trans k0, (hcs _ hgR).trans k1, (hcs _ hgR).trans k2, hG, f3, f4, hb.setCell (p := ⟨w.heap.size, 0, none⟩) (Nat.le_refl _) _⟩
end Go.Proofs.Ythoccmgfpjfkoaa
