/- A table of rows in memory. No program in sight. -/
import Derived.Test.YthoccmgfpjfkoaaMem
import Derived.Test.YthoccmgfpjfkoaaLcsPlain
import Derived.Deep.OwnRows
namespace Go.Proofs.Ythoccmgfpjfkoaa
open Go.RowKit

/-- Block G holds n slices, the i-th over block ρ i, which holds the m numbers 'f i'. -/
structure Mat (t1 t2 : TypeId) (w : World) (G n m : Nat) (ρ : Nat → Nat) (f : Nat → Nat → Int) : Prop where
  top : w.rowIs G t1 n (fun i => .slice (some ⟨ρ i, 0, none⟩) m m)
  rows : ∀ i, i < n → w.rowIs (ρ i) t2 m (fun k => .int .i64 (f i k))
  ne : ∀ i, i < n → ρ i ≠ G
  inj : ∀ i j, i < n → j < n → ρ i = ρ j → i = j

namespace Mat
variable {t1 t2 : TypeId} {w w' : World} {G n m : Nat} {ρ : Nat → Nat} {f g : Nat → Nat → Int}
theorem topAt (h : Mat t1 t2 w G n m ρ f) {i : Nat} (hi : i < n) : w.cell? ⟨G, i, none⟩ = some (.slice (some ⟨ρ i, 0, none⟩) m m) := h.top.cell hi
theorem at_ (h : Mat t1 t2 w G n m ρ f) {i k : Nat} (hi : i < n) (hk : k < m) : w.cell? ⟨ρ i, k, none⟩ = some (.int .i64 (f i k)) := (h.rows i hi).cell hk
theorem free (h : Mat t1 t2 w G n m ρ f) {i : Nat} (hi : i < n) (k : Nat) : w.frozen? ⟨ρ i, k, none⟩ = false := (h.rows i hi).frozen k
theorem congr (h : Mat t1 t2 w G n m ρ f) (e : ∀ i k, i < n → k < m → f i k = g i k) : Mat t1 t2 w G n m ρ g :=
  ⟨h.top, fun i hi => (h.rows i hi).congr fun k hk => by rw [e i k hi hk], h.ne, h.inj⟩
theorem drew (h : Mat t1 t2 w G n m ρ f) : Mat t1 t2 w.drew G n m ρ f := ⟨h.top, h.rows, h.ne, h.inj⟩
theorem drewN (h : Mat t1 t2 w G n m ρ f) (k : Nat) : Mat t1 t2 (w.drewN k) G n m ρ f := ⟨h.top, h.rows, h.ne, h.inj⟩
theorem of_blocks (h : Mat t1 t2 w G n m ρ f) (h1 : w'.heap[G]? = w.heap[G]?) (h2 : ∀ i, i < n → w'.heap[ρ i]? = w.heap[ρ i]?) : Mat t1 t2 w' G n m ρ f :=
  ⟨h.top.of_block h1, fun i hi => (h.rows i hi).of_block (h2 i hi), h.ne, h.inj⟩
theorem below (h : Mat t1 t2 w G n m ρ f) (hb : Below w.heap.size w w') : Mat t1 t2 w' G n m ρ f :=
  h.of_blocks (hb.block _ h.top.lt) fun i hi => hb.block _ (h.rows i hi).lt
theorem set_ (h : Mat t1 t2 w G n m ρ f) {i : Nat} (hi : i < n) (k : Nat) (x : Int) :
    Mat t1 t2 (w.setCell ⟨ρ i, k, none⟩ (.int .i64 x)) G n m ρ (fun i' k' => if i' = i ∧ k' = k then x else f i' k') := by
  refine ⟨h.top.setOther (fun e => h.ne i hi e.symm) _, fun j hj => ?_, h.ne, h.inj⟩
  by_cases e : j = i
  · subst e
    refine ((h.rows j hj).set k (.int .i64 x)).congr fun k' _ => ?_
    by_cases e' : k' = k
    · subst e'; simp
    · simp [e']
  · refine ((h.rows j hj).setOther (fun e' => e (h.inj j i hj hi e')) _).congr fun k' _ => ?_
    simp [e]
end Mat

/-- the table's numbers while it is being filled: all from place (p, q) on -/
def FillTo (a b : List ByteArray) (p q : Int) (i k : Nat) : Int := if p + 1 ≤ (i : Int) ∨ ((i : Int) = p ∧ q + 1 ≤ (k : Int)) then (Lcs.L (a.drop i) (b.drop k) : Int) else 0

theorem FillTo_at {a b : List ByteArray} {p q : Int} {i k : Nat} (h : p + 1 ≤ (i : Int) ∨ ((i : Int) = p ∧ q + 1 ≤ (k : Int))) : FillTo a b p q i k = (Lcs.L (a.drop i) (b.drop k) : Int) := if_pos h
theorem FillTo_start (a b : List ByteArray) (i k : Nat) : FillTo a b ((a.length : Int) - 1) ((b.length : Int) - 1) i k = 0 := by
  unfold FillTo
  split
  · rename_i h
    rw [Lcs.L_at_end (by omega)]
    rfl
  · rfl
theorem FillTo_all (a b : List ByteArray) (i k : Nat) (q : Int) : FillTo a b (-1) q i k = Lcs.L (a.drop i) (b.drop k) := by
  unfold FillTo
  rw [if_pos (by omega)]
theorem FillTo_row (a b : List ByteArray) (p : Int) (i k : Nat) (hk : k < b.length + 1) : FillTo a b p (-1) i k = FillTo a b (p - 1) ((b.length : Int) - 1) i k := by
  unfold FillTo
  by_cases h : p + 1 ≤ (i : Int) ∨ ((i : Int) = p ∧ -1 + 1 ≤ (k : Int))
  · rw [if_pos h, if_pos (by omega)]
  · rw [if_neg h]
    split
    · rename_i h'
      have : b.length ≤ k := by omega
      rw [Lcs.L_at_end (by omega)]; rfl
    · rfl
/-- one more number -/
theorem FillTo_step (a b : List ByteArray) (p q : Nat) (x : Int) (hx : x = Lcs.L (a.drop p) (b.drop q)) (i k : Nat) (_hi : i < a.length + 1) (_hk : k < b.length + 1) :
    (if i = p ∧ k = q then x else FillTo a b p q i k) = FillTo a b p ((q : Int) - 1) i k := by
  subst hx
  unfold FillTo
  by_cases h : i = p ∧ k = q
  · obtain ⟨rfl, rfl⟩ := h
    rw [if_pos ⟨rfl, rfl⟩, if_pos (by omega)]
  · rw [if_neg h]
    by_cases h' : (p : Int) + 1 ≤ (i : Int) ∨ ((i : Int) = p ∧ (q : Int) + 1 ≤ (k : Int))
    · rw [if_pos h', if_pos (by omega)]
    · rw [if_neg h', if_neg (by omega)]
theorem FillTo_step2 (a b : List ByteArray) (p q : Nat) (y x : Int) (hx : x = Lcs.L (a.drop p) (b.drop q)) (i k : Nat) (hi : i < a.length + 1) (hk : k < b.length + 1) :
    (if i = p ∧ k = q then x else (if i = p ∧ k = q then y else FillTo a b p q i k)) = FillTo a b p ((q : Int) - 1) i k := by
  rw [← FillTo_step a b p q x hx i k hi hk]
  split <;> rfl

end Go.Proofs.Ythoccmgfpjfkoaa
