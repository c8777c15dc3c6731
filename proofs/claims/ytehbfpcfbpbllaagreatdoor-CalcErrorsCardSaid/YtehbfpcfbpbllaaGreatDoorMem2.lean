/- More words for memory. No program in sight. -/
import Derived.Test.YtehbfpcfbpbllaaGreatDoorMem
import Derived.Laws.BytesArg
namespace Go.Proofs.YtehbfpcfbpbllaaGreatDoor
open Go.RowKit

/-- what the call owns stays while only new blocks come -/
theorem own_below {w w' : World} {base : Nat} {e : TypeId} {size n : Nat} {v : Value} {xs : List Value} (h : w.ownsRow base e size v n xs) (hb : Below w.heap.size w w') : w'.ownsRow base e size v n xs := by
  refine ⟨h.1, ?_⟩
  rcases h.2 with h | ⟨g, cap, cur, hv, hg, hh, r⟩
  · exact .inl h
  · exact .inr ⟨g, cap, cur, hv, hg, (hb.block g (Array.getElem?_eq_some_iff.1 hh).1).trans hh, r⟩
theorem own_drewN {w : World} {base : Nat} {e : TypeId} {size n : Nat} {v : Value} {xs : List Value} (h : w.ownsRow base e size v n xs) (k : Nat) : (w.drewN k).ownsRow base e size v n xs := h
/-- a row of the call's own, as a slice that reads as a list -/
theorem own_reads {α : Type} {f : α → Value} {w : World} {base : Nat} {e : TypeId} {v : Value} {l : List α} (h : w.ownsRow base e 1 v l.length (l.map f)) (hm : l.length ≤ 9223372036854775807) :
    ∃ A c, v = .slice A l.length c ∧ At1 f w A l ∧ l.length ≤ c := by
  obtain ⟨A, c, rfl, h1, _⟩ := own_form h
  exact ⟨A, c, rfl, At1.of_own h hm, h1⟩

/-- 'string(b)' -/
theorem run_str_of {P : Program} {src dst e : TypeId} (hs : P.underlying src = some (.slice e)) (he : P.underlying e = some (.int .u8)) (hd : P.underlying dst = some .string) {w : World} {A : Option Addr} {l : List UInt8} {n c : Nat} (hn : n = l.length) (h : At1 vByte w A l) :
    (convert src dst (.slice A n c)).run P w = .ok (.string ⟨l.toArray⟩) w := by
  subst hn
  by_cases h0 : l = []
  · subst h0
    rcases A with _ | ad
    · exact run_convert_bytes_nil (P := P) w src e hs he 0 c dst hd
    · exact run_convert_bytes_back (P := P) w src dst e ad c [] hs he hd (fun j hj => absurd hj (by simp))
  · obtain ⟨ad, rfl, hc⟩ := h.2 (List.length_pos_iff.2 h0)
    exact run_convert_bytes_back (P := P) w src dst e ad c l hs he hd (fun j hj => hc j _ (List.getElem?_eq_getElem hj))

end Go.Proofs.YtehbfpcfbpbllaaGreatDoor
