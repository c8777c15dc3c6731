/- AlignGone's plain law: rows taken away, one put in: the longest common list keeps just the others. No program in sight. -/
import Derived.Test.YthoccmgfpjfkoaaAlignPlain
namespace Go.Proofs.Ythoccmgfpjfkoaa
open Al

/-- one round: what the second sheet has (a row by its number; 1000: the row put in), where the rows should go -/
def goneStep (k i j put : Nat) (s : List Nat × List Int) (r : Nat) : List Nat × List Int :=
  let b := s.1 ++ (if r = put ∧ (put < i ∨ j < put) then [1000] else [])
  if r = k then (b, s.2) else if i ≤ r ∧ r < j then (b, s.2 ++ [-1]) else (b ++ [r], s.2 ++ [(b.length : Int)])
def gone (k i j put n : Nat) : List Nat × List Int := (List.range n).foldl (goneStep k i j put) ([], [])
theorem gone_succ (k i j put n : Nat) : gone k i j put (n + 1) = goneStep k i j put (gone k i j put n) n := by simp [gone, List.range_succ]

def goneCheck (k i j put : Nat) : Bool :=
  let s := gone k i j put (k + 1)
  decide (s.1.Nodup) && (s.1.filter (fun c => (List.range k).contains c)).isSublist (List.range k) && (fill (mapOf k (M (k + s.1.length) (List.range k) s.1 0 0)) s.1.length 0 == s.2) && s.1.all (fun c => decide (c < 12) || c == 1000) && decide (s.1.length ≤ 200)

set_option maxRecDepth 100000 in
theorem gone_checked : ∀ k < 12, 4 ≤ k → ∀ i < k, ∀ m < 4, ∀ put < k + 1, goneCheck k i (min k (i + m)) put = true := by decide +kernel
end Go.Proofs.Ythoccmgfpjfkoaa
