/-
  DERIVED. GIVEN WITH THE SEED: THE CARDS: each row of YtehbfpcfbpbllaaGreatDoorRows.lean that lists a variable, with what it lists TIED to the program's text (the seventh form; the later family's looks); each row that meets fmt, with fmt's text TOLD by the authors' own Lean function (tested against real Go, not proved from fmt's source: count such statements apart). THE CARD IS WHAT COUNTS. Prove the row's statement (the work); the ties are given (YtehbfpcfbpbllaaGreatDoorTie.lean); close each card by the builder's one call (the guide's Derived/Test/ToyasCard.lean, 'card_holds'). Laid BY PROGRAM, IN A SANDBOX (cutbox-door.mjs). By AI agents, Wed Nov 11 2026. No macro, syntax, notation, axiom, sorry.
-/
import Derived.Test.YtehbfpcfbpbllaaGreatDoorRows
import GoSem.ClaimSeven
namespace Go.Proofs.YtehbfpcfbpbllaaGreatDoor
namespace Rows

/-- THE TIED CARD OF 'chequerlaw14.CalcSums'. -/
def calcSumsCard : Claim7 := { stood := { row := calcSumsRow, standIns := [], harness := (true, "8c359b79ebdd3f3871c40185bb643e81d99223454027df99876ff2b275dfbf7f"), looks := true }, kinds := [], alts := [], laidByText := true, laidKinds := [.data, .data, .data, .data, .sentinel, .sentinel, .pinned], laidTests := true, laidLooks := .later }
def CalcSumsCardSaid : Prop := Claim7.holds Tryz.pinned (.plain (OpenSpec.ofChange calcSumsSpec)) calcSumsCard

/-- THE TIED CARD OF 'chequerlaw14.CalcErrors'. -/
def calcErrorsCard : Claim7 := { stood := { row := calcErrorsRow, standIns := [], harness := (true, "8c359b79ebdd3f3871c40185bb643e81d99223454027df99876ff2b275dfbf7f"), looks := true }, kinds := [], alts := [], laidByText := true, laidKinds := [.data, .data, .data, .data, .sentinel, .sentinel, .pinned], laidTests := true, laidLooks := .later }
def CalcErrorsCardSaid : Prop := Claim7.holds Tryz.pinned (.plain (OpenSpec.ofChange calcErrorsSpec)) calcErrorsCard

/-- THE TIED CARD OF 'chequerlaw14.CalcRow'. -/
def calcRowCard : Claim7 := { stood := { row := calcRowRow, standIns := [], harness := (true, "8c359b79ebdd3f3871c40185bb643e81d99223454027df99876ff2b275dfbf7f"), looks := true }, kinds := [], alts := [], laidByText := true, laidKinds := [.data, .data, .data, .data, .sentinel, .sentinel, .pinned], laidTests := true, laidLooks := .later }
def CalcRowCardSaid : Prop := Claim7.holds Tryz.pinned (.plain (OpenSpec.ofChange calcRowSpec)) calcRowCard

/-- THE SECOND FORM's CARD OF 'chequerlaw14.CalcSums'. -/
def calcSumsUptoCard : Claim7 := { stood := { row := calcSumsUptoRow, standIns := [], harness := (true, "8c359b79ebdd3f3871c40185bb643e81d99223454027df99876ff2b275dfbf7f"), looks := true }, kinds := [], alts := [], laidByText := true, laidKinds := [.data, .data, .data, .data, .sentinel, .sentinel, .pinned], laidTests := true, laidLooks := .later }
def CalcSumsUptoCardSaid : Prop := Claim7.holds Tryz.pinned (.plain (OpenSpec.upto calcSumsSpec)) calcSumsUptoCard

/-- THE SECOND FORM's CARD OF 'chequerlaw14.CalcErrors'. -/
def calcErrorsUptoCard : Claim7 := { stood := { row := calcErrorsUptoRow, standIns := [], harness := (true, "8c359b79ebdd3f3871c40185bb643e81d99223454027df99876ff2b275dfbf7f"), looks := true }, kinds := [], alts := [], laidByText := true, laidKinds := [.data, .data, .data, .data, .sentinel, .sentinel, .pinned], laidTests := true, laidLooks := .later }
def CalcErrorsUptoCardSaid : Prop := Claim7.holds Tryz.pinned (.plain (OpenSpec.upto calcErrorsSpec)) calcErrorsUptoCard

/-- THE SECOND FORM's CARD OF 'chequerlaw14.CalcRow'. -/
def calcRowUptoCard : Claim7 := { stood := { row := calcRowUptoRow, standIns := [], harness := (true, "8c359b79ebdd3f3871c40185bb643e81d99223454027df99876ff2b275dfbf7f"), looks := true }, kinds := [], alts := [], laidByText := true, laidKinds := [.data, .data, .data, .data, .sentinel, .sentinel, .pinned], laidTests := true, laidLooks := .later }
def CalcRowUptoCardSaid : Prop := Claim7.holds Tryz.pinned (.plain (OpenSpec.upto calcRowSpec)) calcRowUptoCard
end Rows
end Go.Proofs.YtehbfpcfbpbllaaGreatDoor
