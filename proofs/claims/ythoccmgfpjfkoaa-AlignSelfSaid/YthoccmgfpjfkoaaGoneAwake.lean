/- The walk of chequerlaw16.awake. -/
import Derived.Test.YthoccmgfpjfkoaaGoneLaw
import Derived.Test.YthoccmgfpjfkoaaInts
namespace Go.Proofs.Ythoccmgfpjfkoaa
open Go.RowKit

theorem rows_aba {x y z : ByteArray} (h3 : y ≠ z) : rowsOf [x, y] [x, z, y] = [0, 2] := by
  simp [rowsOf, pairsOf, Lcs.W, Lcs.L, h3, Al.mapOf, Al.setAll, Al.fill, List.replicate]

/-- some blocks laid one behind the other -/
def allocs (w : World) : List Obj → World
  | [] => w
  | o :: r => allocs (w.alloc o) r
theorem allocs_below : ∀ (os : List Obj) (n : Nat) (w0 w : World), Below n w0 w → n ≤ w.heap.size → Below n w0 (allocs w os)
  | [], _, _, _, h, _ => h
  | o :: r, n, w0, w, h, hn => allocs_below r n w0 (w.alloc o) (h.alloc hn o) (by rw [World.size_alloc]; omega)
theorem allocs_size : ∀ (os : List Obj) (w : World), (allocs w os).heap.size = w.heap.size + os.length
  | [], _ => rfl
  | o :: r, w => by rw [allocs, allocs_size r, World.size_alloc, List.length_cons]; omega
theorem allocs_at : ∀ (os : List Obj) (w : World) (i : Nat) (o : Obj), os[i]? = some o → (allocs w os).heap[w.heap.size + i]? = some o
  | o' :: r, w, 0, o, h => by
    simp at h; subst h
    exact ((allocs_below r _ (w.alloc o') (w.alloc o') (Below.refl _ _) (Nat.le_refl _)).block w.heap.size (by rw [World.size_alloc]; omega)).trans (heap_alloc_new w o')
  | o' :: r, w, i + 1, o, h => by
    have := allocs_at r (w.alloc o') i o (by simpa using h)
    rw [World.size_alloc] at this
    rwa [show w.heap.size + (i + 1) = w.heap.size + 1 + i by omega]

theorem obs_row {W : World} {g : Nat} {b : UInt8} (h : W.heap[g]? = some (.cells #[.string ⟨#[b]⟩] 9 (0, 0))) : RowOk W ⟨some ⟨g, 0, none⟩, [⟨#[b]⟩], 1⟩ := ⟨g, _, rfl, h⟩
theorem key_nil : keyOf [] = ⟨#[0]⟩ := by
  unfold keyOf
  rw [show texts [] = [] from rfl]
  simp [Code.putList, Code.putL_small]
theorem key_byte_ne {a b : UInt8} (h : a ≠ b) : keyOf [⟨#[a]⟩] ≠ keyOf [⟨#[b]⟩] := fun e => by
  have := keyOf_inj (s := ⟨#[a]⟩) (t := ⟨#[b]⟩) (fun e => absurd (show (1 : Nat) = 0 from congrArg ByteArray.size e) (by decide)) (by show 1 < 128; decide) (fun e => absurd (show (1 : Nat) = 0 from congrArg ByteArray.size e) (by decide)) (by show 1 < 128; decide) e
  injection this with this
  injection this with this
  injection this with this
  exact h this

set_option maxRecDepth 100000 in
set_option maxHeartbeats 1000000 in
theorem awake_any (w : World) : Calls Try.prog 11 #[] w fun e w' => e = .returned (.bool true) ∧ Below w.heap.size w w' := by
  have hw : ∃ W, W = allocs w [(.cells #[.string ⟨#[49]⟩] 9), (.cells #[.string ⟨#[50]⟩] 9), (.cells #[.slice (some ⟨w.heap.size, 0, none⟩) 1 1, .slice (some ⟨w.heap.size + 1, 0, none⟩) 1 1] 26), (.cells #[.string ⟨#[65]⟩, .int .i64 1, .slice (some ⟨w.heap.size + 1 + 1, 0, none⟩) 2 2] 24), (.cells #[.string ⟨#[49]⟩] 9), (.cells #[.string ⟨#[55]⟩] 9), (.cells #[.string ⟨#[50]⟩] 9), (.cells #[.slice (some ⟨w.heap.size + 1 + 1 + 1 + 1, 0, none⟩) 1 1, .slice (some ⟨w.heap.size + 1 + 1 + 1 + 1 + 1, 0, none⟩) 1 1, .slice (some ⟨w.heap.size + 1 + 1 + 1 + 1 + 1 + 1, 0, none⟩) 1 1] 26), (.cells #[.string ⟨#[65]⟩, .int .i64 1, .slice (some ⟨w.heap.size + 1 + 1 + 1 + 1 + 1 + 1 + 1, 0, none⟩) 3 3] 24)] := ⟨_, rfl⟩
  obtain ⟨W, hW⟩ := hw
  have at_ : ∀ (i : Nat) (o : Obj), [(.cells #[.string ⟨#[49]⟩] 9), (.cells #[.string ⟨#[50]⟩] 9), (.cells #[.slice (some ⟨w.heap.size, 0, none⟩) 1 1, .slice (some ⟨w.heap.size + 1, 0, none⟩) 1 1] 26), (.cells #[.string ⟨#[65]⟩, .int .i64 1, .slice (some ⟨w.heap.size + 1 + 1, 0, none⟩) 2 2] 24), (.cells #[.string ⟨#[49]⟩] 9), (.cells #[.string ⟨#[55]⟩] 9), (.cells #[.string ⟨#[50]⟩] 9), (.cells #[.slice (some ⟨w.heap.size + 1 + 1 + 1 + 1, 0, none⟩) 1 1, .slice (some ⟨w.heap.size + 1 + 1 + 1 + 1 + 1, 0, none⟩) 1 1, .slice (some ⟨w.heap.size + 1 + 1 + 1 + 1 + 1 + 1, 0, none⟩) 1 1] 26), (.cells #[.string ⟨#[65]⟩, .int .i64 1, .slice (some ⟨w.heap.size + 1 + 1 + 1 + 1 + 1 + 1 + 1, 0, none⟩) 3 3] 24)][i]? = some o → W.heap[w.heap.size + i]? = some o := fun i o h => by rw [hW]; exact allocs_at _ w i o h
  have hbW : Below w.heap.size w W := by rw [hW]; exact allocs_below _ _ w w (Below.refl _ _) (Nat.le_refl _)
  have r0 := at_ 0 _ rfl
  have r1 := at_ 1 _ rfl
  have r2 := at_ 2 _ rfl
  have r4 := at_ 4 _ rfl
  have r5 := at_ 5 _ rfl
  have r6 := at_ 6 _ rfl
  have r7 := at_ 7 _ rfl
  have GA : Grid W (some ⟨w.heap.size + 1 + 1, 0, none⟩) [⟨some ⟨w.heap.size, 0, none⟩, [⟨#[49]⟩], 1⟩, ⟨some ⟨w.heap.size + 1, 0, none⟩, [⟨#[50]⟩], 1⟩] :=
    ⟨at1_lit (by simp) r2 (fun i x hx => by
        match i, hx with
        | 0, hx => simp at hx; subst hx; rfl
        | 1, hx => simp at hx; subst hx; rfl
        | i + 2, hx => simp at hx),
      fun r hr => by
        simp only [List.mem_cons, List.not_mem_nil, or_false] at hr
        rcases hr with rfl | rfl
        · exact (obs_row r0).at1
        · exact (obs_row r1).at1⟩
  have GB : Grid W (some ⟨w.heap.size + 1 + 1 + 1 + 1 + 1 + 1 + 1, 0, none⟩) [⟨some ⟨w.heap.size + 1 + 1 + 1 + 1, 0, none⟩, [⟨#[49]⟩], 1⟩, ⟨some ⟨w.heap.size + 1 + 1 + 1 + 1 + 1, 0, none⟩, [⟨#[55]⟩], 1⟩, ⟨some ⟨w.heap.size + 1 + 1 + 1 + 1 + 1 + 1, 0, none⟩, [⟨#[50]⟩], 1⟩] :=
    ⟨at1_lit (by simp) r7 (fun i x hx => by
        match i, hx with
        | 0, hx => simp at hx; subst hx; rfl
        | 1, hx => simp at hx; subst hx; rfl
        | 2, hx => simp at hx; subst hx; rfl
        | i + 3, hx => simp at hx),
      fun r hr => by
        simp only [List.mem_cons, List.not_mem_nil, or_false] at hr
        rcases hr with rfl | rfl | rfl
        · exact (obs_row r4).at1
        · exact (obs_row r5).at1
        · exact (obs_row r6).at1⟩
  have hma : Mild [⟨some ⟨w.heap.size, 0, none⟩, [⟨#[49]⟩], 1⟩, ⟨some ⟨w.heap.size + 1, 0, none⟩, [⟨#[50]⟩], 1⟩] := ⟨by simp, fun r hr => by
    simp only [List.mem_cons, List.not_mem_nil, or_false] at hr
    rcases hr with rfl | rfl <;> exact ⟨by simp, fun s hs => by simp at hs; subst hs; show 1 ≤ 1048576; decide⟩⟩
  have hmb : Mild [⟨some ⟨w.heap.size + 1 + 1 + 1 + 1, 0, none⟩, [⟨#[49]⟩], 1⟩, ⟨some ⟨w.heap.size + 1 + 1 + 1 + 1 + 1, 0, none⟩, [⟨#[55]⟩], 1⟩, ⟨some ⟨w.heap.size + 1 + 1 + 1 + 1 + 1 + 1, 0, none⟩, [⟨#[50]⟩], 1⟩] := ⟨by simp, fun r hr => by
    simp only [List.mem_cons, List.not_mem_nil, or_false] at hr
    rcases hr with rfl | rfl | rfl <;> exact ⟨by simp, fun s hs => by simp at hs; subst hs; show 1 ≤ 1048576; decide⟩⟩
  have key := alignRows_any W _ _ _ _ 2 3 2 3 ⟨#[65]⟩ ⟨#[65]⟩ 1 1 rfl rfl GA GB hma hmb
  have hrows : rowsOf (rowKeys [⟨some ⟨w.heap.size, 0, none⟩, [⟨#[49]⟩], 1⟩, ⟨some ⟨w.heap.size + 1, 0, none⟩, [⟨#[50]⟩], 1⟩]) (rowKeys [⟨some ⟨w.heap.size + 1 + 1 + 1 + 1, 0, none⟩, [⟨#[49]⟩], 1⟩, ⟨some ⟨w.heap.size + 1 + 1 + 1 + 1 + 1, 0, none⟩, [⟨#[55]⟩], 1⟩, ⟨some ⟨w.heap.size + 1 + 1 + 1 + 1 + 1 + 1, 0, none⟩, [⟨#[50]⟩], 1⟩]) = [0, 2] :=
    rows_aba (key_byte_ne (by decide))
  rw [hrows] at key
  have HK := Lib.hid key
  clear key hrows hma hmb GA GB r0 r1 r2 r4 r5 r6 r7 at_
  subst hW
  go_enter Try.func11, Try.ntmps11
  go_wp2_with fail
  refine HK.out.mono ?_
  rintro e w1 ⟨Z, c, rfl, hown, hb1⟩
  have hbb := Lib.hid (hbW.trans (hb1.mono hbW.size))
  have hZ : At1 vInt w1 Z [0, 2] := At1.of_own (n := 2) hown (by simp)
  have HZ := Lib.hid hZ
  clear HK hbW hown hb1 hZ
  go_wp2_with fail
  have hlit : At1 vInt (w1.alloc (.cells #[.int .i64 0, .int .i64 2] 3)) (some ⟨w1.heap.size, 0, none⟩) [0, 2] := at1_lit (by simp) (heap_alloc_new w1 _) (fun i x hx => by
    match i, hx with
    | 0, hx => simp at hx; subst hx; rfl
    | 1, hx => simp at hx; subst hx; rfl
    | i + 2, hx => simp at hx)
  refine (sameMap_any _ Z _ [0, 2] [0, 2] 2 2 c 2 3 rfl rfl (HZ.out.alloc _) hlit rfl).mono ?_
  rintro e w2 ⟨rfl, hb2⟩
  have HB2 := Lib.hid ((hbb.out.alloc hbb.out.size (.cells #[.int .i64 0, .int .i64 2] 3)).trans (hb2.mono (by rw [World.size_alloc]; have := hbb.out.size; omega)))
  clear hb2 hlit HZ
  go_wp2_with fail
  refine (key_any w2 none [] 0 (At1.nil _ _ _) (by simp) (fun s hs => by simp at hs)).mono ?_
  rintro e w3 ⟨rfl, hb3⟩
  rw [key_nil]
  go_wp2
  go_ret
  exact ⟨rfl, HB2.out.trans (hb3.mono HB2.out.size)⟩
end Go.Proofs.Ythoccmgfpjfkoaa
