/-
  DERIVED. GIVEN WITH THE SEED: THE CARDS: each row of YtlllhhjlfmhmlaaGreatDoorRows.lean that lists a variable, with what it lists TIED to the program's text (the seventh form; the later family's looks); each row that meets fmt, with fmt's text TOLD by the authors' own Lean function (tested against real Go, not proved from fmt's source: count such statements apart). THE CARD IS WHAT COUNTS. Prove the row's statement (the work); the ties are given (YtlllhhjlfmhmlaaGreatDoorTie.lean); close each card by the builder's one call (the guide's Derived/Test/ToyasCard.lean, 'card_holds'). Laid BY PROGRAM, IN A SANDBOX (cutbox-door.mjs). By AI agents, Wed Nov 11 2026. No macro, syntax, notation, axiom, sorry.
-/
import Derived.Test.YtlllhhjlfmhmlaaGreatDoorRows
import GoSem.ClaimSeven
namespace Go.Proofs.YtlllhhjlfmhmlaaGreatDoor
namespace Rows

/-- THE TIED CARD OF 'chequerlaw13.DepsAll'. -/
def depsAllCard : Claim7 := { stood := { row := depsAllRow, standIns := [], harness := (true, "a1cfe28506f6f881de3d02ee10887db40cb81d86951fad781a9bbf74a4e739bf"), looks := true }, kinds := [], alts := [], laidByText := true, laidKinds := [.data, .data, .data, .data, .sentinel, .sentinel, .pinned], laidTests := true, laidLooks := .later }
def DepsAllCardSaid : Prop := Claim7.holds Tryz.pinned (.plain (OpenSpec.ofChange depsAllSpec)) depsAllCard

/-- THE TIED CARD OF 'chequerlaw13.DepsMade'. -/
def depsMadeCard : Claim7 := { stood := { row := depsMadeRow, standIns := [], harness := (true, "a1cfe28506f6f881de3d02ee10887db40cb81d86951fad781a9bbf74a4e739bf"), looks := true }, kinds := [], alts := [], laidByText := true, laidKinds := [.data, .data, .data, .data, .sentinel, .sentinel, .pinned], laidTests := true, laidLooks := .later }
def DepsMadeCardSaid : Prop := Claim7.holds Tryz.pinned (.plain (OpenSpec.ofChange depsMadeSpec)) depsMadeCard

/-- THE TIED CARD OF 'chequerlaw13.DepsOrder'. -/
def depsOrderCard : Claim7 := { stood := { row := depsOrderRow, standIns := [], harness := (true, "a1cfe28506f6f881de3d02ee10887db40cb81d86951fad781a9bbf74a4e739bf"), looks := true }, kinds := [], alts := [], laidByText := true, laidKinds := [.data, .data, .data, .data, .sentinel, .sentinel, .pinned], laidTests := true, laidLooks := .later }
def DepsOrderCardSaid : Prop := Claim7.holds Tryz.pinned (.plain (OpenSpec.ofChange depsOrderSpec)) depsOrderCard

/-- THE SECOND FORM's CARD OF 'chequerlaw13.DepsAll'. -/
def depsAllUptoCard : Claim7 := { stood := { row := depsAllUptoRow, standIns := [], harness := (true, "a1cfe28506f6f881de3d02ee10887db40cb81d86951fad781a9bbf74a4e739bf"), looks := true }, kinds := [], alts := [], laidByText := true, laidKinds := [.data, .data, .data, .data, .sentinel, .sentinel, .pinned], laidTests := true, laidLooks := .later }
def DepsAllUptoCardSaid : Prop := Claim7.holds Tryz.pinned (.plain (OpenSpec.upto depsAllSpec)) depsAllUptoCard

/-- THE SECOND FORM's CARD OF 'chequerlaw13.DepsMade'. -/
def depsMadeUptoCard : Claim7 := { stood := { row := depsMadeUptoRow, standIns := [], harness := (true, "a1cfe28506f6f881de3d02ee10887db40cb81d86951fad781a9bbf74a4e739bf"), looks := true }, kinds := [], alts := [], laidByText := true, laidKinds := [.data, .data, .data, .data, .sentinel, .sentinel, .pinned], laidTests := true, laidLooks := .later }
def DepsMadeUptoCardSaid : Prop := Claim7.holds Tryz.pinned (.plain (OpenSpec.upto depsMadeSpec)) depsMadeUptoCard

/-- THE SECOND FORM's CARD OF 'chequerlaw13.DepsOrder'. -/
def depsOrderUptoCard : Claim7 := { stood := { row := depsOrderUptoRow, standIns := [], harness := (true, "a1cfe28506f6f881de3d02ee10887db40cb81d86951fad781a9bbf74a4e739bf"), looks := true }, kinds := [], alts := [], laidByText := true, laidKinds := [.data, .data, .data, .data, .sentinel, .sentinel, .pinned], laidTests := true, laidLooks := .later }
def DepsOrderUptoCardSaid : Prop := Claim7.holds Tryz.pinned (.plain (OpenSpec.upto depsOrderSpec)) depsOrderUptoCard
end Rows
end Go.Proofs.YtlllhhjlfmhmlaaGreatDoor
