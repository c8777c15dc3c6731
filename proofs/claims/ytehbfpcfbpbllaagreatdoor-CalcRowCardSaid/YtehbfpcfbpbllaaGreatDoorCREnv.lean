/- CalcRow: the machine's environment. -/
import Derived.Test.YtehbfpcfbpbllaaGreatDoorCRSym
namespace Go.Proofs.YtehbfpcfbpbllaaGreatDoor
namespace VM
open Go Go.RowKit
noncomputable section
def awakeMemo : Memo := ⟨[], .bool true, []⟩
def mayH (al : List V) (h : Hp) : Option (V × Hp) := match al with
  | [.symS _] => some (.bool true, h)
  | al => memoH cr_cell_May al h
def plainH (al : List V) (h : Hp) : Option (V × Hp) := match al with
  | [.symS _] => some (.agg [.int .i64 (.ofNat 1), .symI .i64 1, .str []], h)
  | al => memoH cr_cell_Plain al h
def digH (al : List V) (h : Hp) : Option (V × Hp) := match al with
  | [.symI k j] => bif keq k .i64 && Nat.beq j 1 then some (.symS 0, h) else none
  | _ => none
def hooksCR : Nat → Option (List V → Hp → Option (V × Hp)) := fun f =>
  bif Nat.beq f 220 then some idxH else
  bif Nat.beq f 15 then some (memoH cr_cell_Formula) else
  bif Nat.beq f 30 then some mayH else
  bif Nat.beq f 11 then some plainH else
  bif Nat.beq f 7 then some digH else
  bif Nat.beq f 6 then some (memoH [awakeMemo]) else none
def Ecr (m : Nat) : Env := Env.of Tryz.prog hooksCR idles (soCR m)
def argsCR (up sheets : Bool) : List V := [.symI .u8 0, .symI .i16 1, .bool up, .bool sheets]
end
end VM
end Go.Proofs.YtehbfpcfbpbllaaGreatDoor
