/-
  DERIVED. GIVEN WITH THE SEED: THE CARDS: each row of YtgminjlnnpaefaaGreatDoorRows.lean that lists a variable, with what it lists TIED to the program's text (the seventh form; the later family's looks); each row that meets fmt, with fmt's text TOLD by the authors' own Lean function (tested against real Go, not proved from fmt's source: count such statements apart). THE CARD IS WHAT COUNTS. Prove the row's statement (the work); the ties are given (YtgminjlnnpaefaaGreatDoorTie.lean); close each card by the builder's one call (the guide's Derived/Test/ToyasCard.lean, 'card_holds'). Laid BY PROGRAM, IN A SANDBOX (cutbox-door.mjs). By AI agents, Wed Nov 11 2026. No macro, syntax, notation, axiom, sorry.
-/
import Derived.Test.YtgminjlnnpaefaaGreatDoorRows
import GoSem.ClaimSeven
namespace Go.Proofs.YtgminjlnnpaefaaGreatDoor
namespace Rows

/-- THE TIED CARD OF 'chequerlaw13.DepsCmp'. -/
def depsCmpCard : Claim7 := { stood := { row := depsCmpRow, standIns := [], harness := (true, "0acb73aa6fab7d28937c9e7715ccc4f135ac2a4d5261c73baea547cfa7d391c3"), looks := true }, kinds := [], alts := [], laidByText := true, laidKinds := [.data, .data, .data, .data, .sentinel, .sentinel, .pinned], laidTests := true, laidLooks := .later }
def DepsCmpCardSaid : Prop := Claim7.holds Tryz.pinned (.plain (OpenSpec.ofChange depsCmpSpec)) depsCmpCard

/-- THE TIED CARD OF 'chequerlaw13.DepsRow'. -/
def depsRowCard : Claim7 := { stood := { row := depsRowRow, standIns := [], harness := (true, "0acb73aa6fab7d28937c9e7715ccc4f135ac2a4d5261c73baea547cfa7d391c3"), looks := true }, kinds := [], alts := [], laidByText := true, laidKinds := [.data, .data, .data, .data, .sentinel, .sentinel, .pinned], laidTests := true, laidLooks := .later }
def DepsRowCardSaid : Prop := Claim7.holds Tryz.pinned (.plain (OpenSpec.ofChange depsRowSpec)) depsRowCard

/-- THE SECOND FORM's CARD OF 'chequerlaw13.DepsCmp'. -/
def depsCmpUptoCard : Claim7 := { stood := { row := depsCmpUptoRow, standIns := [], harness := (true, "0acb73aa6fab7d28937c9e7715ccc4f135ac2a4d5261c73baea547cfa7d391c3"), looks := true }, kinds := [], alts := [], laidByText := true, laidKinds := [.data, .data, .data, .data, .sentinel, .sentinel, .pinned], laidTests := true, laidLooks := .later }
def DepsCmpUptoCardSaid : Prop := Claim7.holds Tryz.pinned (.plain (OpenSpec.upto depsCmpSpec)) depsCmpUptoCard

/-- THE SECOND FORM's CARD OF 'chequerlaw13.DepsRow'. -/
def depsRowUptoCard : Claim7 := { stood := { row := depsRowUptoRow, standIns := [], harness := (true, "0acb73aa6fab7d28937c9e7715ccc4f135ac2a4d5261c73baea547cfa7d391c3"), looks := true }, kinds := [], alts := [], laidByText := true, laidKinds := [.data, .data, .data, .data, .sentinel, .sentinel, .pinned], laidTests := true, laidLooks := .later }
def DepsRowUptoCardSaid : Prop := Claim7.holds Tryz.pinned (.plain (OpenSpec.upto depsRowSpec)) depsRowUptoCard
end Rows
end Go.Proofs.YtgminjlnnpaefaaGreatDoor
