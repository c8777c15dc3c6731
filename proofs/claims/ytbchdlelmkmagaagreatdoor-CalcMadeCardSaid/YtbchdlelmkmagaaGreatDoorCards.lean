/-
  DERIVED. GIVEN WITH THE SEED: THE CARDS: each row of YtbchdlelmkmagaaGreatDoorRows.lean that lists a variable, with what it lists TIED to the program's text (the seventh form; the later family's looks); each row that meets fmt, with fmt's text TOLD by the authors' own Lean function (tested against real Go, not proved from fmt's source: count such statements apart). THE CARD IS WHAT COUNTS. Prove the row's statement (the work); the ties are given (YtbchdlelmkmagaaGreatDoorTie.lean); close each card by the builder's one call (the guide's Derived/Test/ToyasCard.lean, 'card_holds'). Laid BY PROGRAM, IN A SANDBOX (cutbox-door.mjs). By AI agents, Wed Nov 11 2026. No macro, syntax, notation, axiom, sorry.
-/
import Derived.Test.YtbchdlelmkmagaaGreatDoorRows
import GoSem.ClaimSeven
namespace Go.Proofs.YtbchdlelmkmagaaGreatDoor
namespace Rows

/-- THE TIED CARD OF 'chequerlaw14.CalcMade'. -/
def calcMadeCard : Claim7 := { stood := { row := calcMadeRow, standIns := [], harness := (true, "18b0ef8f149858f115d452a2f00755ef050215deb23f4d7c91cc99c1e71f0ca2"), looks := true }, kinds := [], alts := [], laidByText := true, laidKinds := [.data, .data, .data, .data, .sentinel, .sentinel, .pinned], laidTests := true, laidLooks := .later }
def CalcMadeCardSaid : Prop := Claim7.holds Tryz.pinned (.plain (OpenSpec.ofChange calcMadeSpec)) calcMadeCard

/-- THE TIED CARD OF 'chequerlaw14.CalcEach'. -/
def calcEachCard : Claim7 := { stood := { row := calcEachRow, standIns := [], harness := (true, "18b0ef8f149858f115d452a2f00755ef050215deb23f4d7c91cc99c1e71f0ca2"), looks := true }, kinds := [], alts := [], laidByText := true, laidKinds := [.data, .data, .data, .data, .sentinel, .sentinel, .pinned], laidTests := true, laidLooks := .later }
def CalcEachCardSaid : Prop := Claim7.holds Tryz.pinned (.plain (OpenSpec.ofChange calcEachSpec)) calcEachCard

/-- THE SECOND FORM's CARD OF 'chequerlaw14.CalcMade'. -/
def calcMadeUptoCard : Claim7 := { stood := { row := calcMadeUptoRow, standIns := [], harness := (true, "18b0ef8f149858f115d452a2f00755ef050215deb23f4d7c91cc99c1e71f0ca2"), looks := true }, kinds := [], alts := [], laidByText := true, laidKinds := [.data, .data, .data, .data, .sentinel, .sentinel, .pinned], laidTests := true, laidLooks := .later }
def CalcMadeUptoCardSaid : Prop := Claim7.holds Tryz.pinned (.plain (OpenSpec.upto calcMadeSpec)) calcMadeUptoCard

/-- THE SECOND FORM's CARD OF 'chequerlaw14.CalcEach'. -/
def calcEachUptoCard : Claim7 := { stood := { row := calcEachUptoRow, standIns := [], harness := (true, "18b0ef8f149858f115d452a2f00755ef050215deb23f4d7c91cc99c1e71f0ca2"), looks := true }, kinds := [], alts := [], laidByText := true, laidKinds := [.data, .data, .data, .data, .sentinel, .sentinel, .pinned], laidTests := true, laidLooks := .later }
def CalcEachUptoCardSaid : Prop := Claim7.holds Tryz.pinned (.plain (OpenSpec.upto calcEachSpec)) calcEachUptoCard
end Rows
end Go.Proofs.YtbchdlelmkmagaaGreatDoor
