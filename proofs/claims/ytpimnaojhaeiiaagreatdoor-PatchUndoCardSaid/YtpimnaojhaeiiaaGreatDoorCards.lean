/-
  DERIVED. GIVEN WITH THE SEED: THE CARDS: each row of YtpimnaojhaeiiaaGreatDoorRows.lean that lists a variable, with what it lists TIED to the program's text (the seventh form; the later family's looks); each row that meets fmt, with fmt's text TOLD by the authors' own Lean function (tested against real Go, not proved from fmt's source: count such statements apart). THE CARD IS WHAT COUNTS. Prove the row's statement (the work); the ties are given (YtpimnaojhaeiiaaGreatDoorTie.lean); close each card by the builder's one call (the guide's Derived/Test/ToyasCard.lean, 'card_holds'). Laid BY PROGRAM, IN A SANDBOX (cutbox-door.mjs). By AI agents, Wed Nov 11 2026. No macro, syntax, notation, axiom, sorry.
-/
import Derived.Test.YtpimnaojhaeiiaaGreatDoorRows
import GoSem.ClaimSeven
namespace Go.Proofs.YtpimnaojhaeiiaaGreatDoor
namespace Rows

/-- THE TIED CARD OF 'chequerlaw17.PatchUndo'. -/
def patchUndoCard : Claim7 := { stood := { row := patchUndoRow, standIns := [], harness := (true, "36819e03996e62c83578e3a87af0bd1bb6b3520c2cd38cc8603e5f495970eb19"), looks := true }, kinds := [], alts := [], laidByText := true, laidKinds := [.data, .data, .data, .data, .sentinel, .sentinel, .pinned], laidTests := true, laidLooks := .later }
def PatchUndoCardSaid : Prop := Claim7.holds Tryz.pinned (.plain (OpenSpec.ofChange patchUndoSpec)) patchUndoCard

/-- THE SECOND FORM's CARD OF 'chequerlaw17.PatchUndo'. -/
def patchUndoUptoCard : Claim7 := { stood := { row := patchUndoUptoRow, standIns := [], harness := (true, "36819e03996e62c83578e3a87af0bd1bb6b3520c2cd38cc8603e5f495970eb19"), looks := true }, kinds := [], alts := [], laidByText := true, laidKinds := [.data, .data, .data, .data, .sentinel, .sentinel, .pinned], laidTests := true, laidLooks := .later }
def PatchUndoUptoCardSaid : Prop := Claim7.holds Tryz.pinned (.plain (OpenSpec.upto patchUndoSpec)) patchUndoUptoCard
end Rows
end Go.Proofs.YtpimnaojhaeiiaaGreatDoor
