/-
  DERIVED. GIVEN WITH THE SEED: THE CARDS: each row of YtcbaioagcemmnaaDoorRows.lean that lists a variable, with what it lists TIED to the program's text (the seventh form; the later family's looks); each row that meets fmt, with fmt's text TOLD by the authors' own Lean function (tested against real Go, not proved from fmt's source: count such statements apart). THE CARD IS WHAT COUNTS. Prove the row's statement (the work); the ties are given (YtcbaioagcemmnaaDoorTie.lean); close each card by the builder's one call (the guide's Derived/Test/ToyasCard.lean, 'card_holds'). Laid BY PROGRAM, IN A SANDBOX (cutbox-door.mjs). By AI agents, Wed Nov 11 2026. No macro, syntax, notation, axiom, sorry.
-/
import Derived.Test.YtcbaioagcemmnaaDoorRows
import GoSem.ClaimSeven
namespace Go.Proofs.YtcbaioagcemmnaaDoor
namespace Rows

/-- THE TIED CARD OF 'chequerlaw8.FunSums'. -/
def funSumsCard : Claim7 := { stood := { row := funSumsRow, standIns := [], harness := (true, "e89ad98831732738caff383a252bf5a03badc8861b6f96d29270a44fde1b742a"), looks := false }, kinds := [], alts := [], laidByText := true, laidKinds := [.data, .data, .data], laidTests := true, laidLooks := .later }
def FunSumsCardSaid : Prop := Claim7.holds Tryd.pinned (.plain (OpenSpec.ofChange funSumsSpec)) funSumsCard

/-- THE TIED CARD OF 'chequerlaw8.FunIf'. -/
def funIfCard : Claim7 := { stood := { row := funIfRow, standIns := [], harness := (true, "e89ad98831732738caff383a252bf5a03badc8861b6f96d29270a44fde1b742a"), looks := false }, kinds := [], alts := [], laidByText := true, laidKinds := [.data, .data, .data], laidTests := true, laidLooks := .later }
def FunIfCardSaid : Prop := Claim7.holds Tryd.pinned (.plain (OpenSpec.ofChange funIfSpec)) funIfCard

/-- THE TIED CARD OF 'chequerlaw8.FunTexts'. -/
def funTextsCard : Claim7 := { stood := { row := funTextsRow, standIns := [], harness := (true, "e89ad98831732738caff383a252bf5a03badc8861b6f96d29270a44fde1b742a"), looks := false }, kinds := [], alts := [], laidByText := true, laidKinds := [.data, .data, .data], laidTests := true, laidLooks := .later }
def FunTextsCardSaid : Prop := Claim7.holds Tryd.pinned (.plain (OpenSpec.ofChange funTextsSpec)) funTextsCard

/-- THE TIED CARD OF 'chequerlaw8.FunMod'. -/
def funModCard : Claim7 := { stood := { row := funModRow, standIns := [], harness := (true, "e89ad98831732738caff383a252bf5a03badc8861b6f96d29270a44fde1b742a"), looks := false }, kinds := [], alts := [], laidByText := true, laidKinds := [.data, .data, .data], laidTests := true, laidLooks := .later }
def FunModCardSaid : Prop := Claim7.holds Tryd.pinned (.plain (OpenSpec.ofChange funModSpec)) funModCard

/-- THE TIED CARD OF 'chequerlaw8.FunLogic'. -/
def funLogicCard : Claim7 := { stood := { row := funLogicRow, standIns := [], harness := (true, "e89ad98831732738caff383a252bf5a03badc8861b6f96d29270a44fde1b742a"), looks := false }, kinds := [], alts := [], laidByText := true, laidKinds := [.data, .data, .data], laidTests := true, laidLooks := .later }
def FunLogicCardSaid : Prop := Claim7.holds Tryd.pinned (.plain (OpenSpec.ofChange funLogicSpec)) funLogicCard

/-- THE TIED CARD OF 'chequerlaw8.FunNothing'. -/
def funNothingCard : Claim7 := { stood := { row := funNothingRow, standIns := [], harness := (true, "e89ad98831732738caff383a252bf5a03badc8861b6f96d29270a44fde1b742a"), looks := false }, kinds := [], alts := [], laidByText := true, laidKinds := [.data, .data, .data], laidTests := true, laidLooks := .later }
def FunNothingCardSaid : Prop := Claim7.holds Tryd.pinned (.plain (OpenSpec.ofChange funNothingSpec)) funNothingCard

/-- THE SECOND FORM's CARD OF 'chequerlaw8.FunSums'. -/
def funSumsUptoCard : Claim7 := { stood := { row := funSumsUptoRow, standIns := [], harness := (true, "e89ad98831732738caff383a252bf5a03badc8861b6f96d29270a44fde1b742a"), looks := false }, kinds := [], alts := [], laidByText := true, laidKinds := [.data, .data, .data], laidTests := true, laidLooks := .later }
def FunSumsUptoCardSaid : Prop := Claim7.holds Tryd.pinned (.plain (OpenSpec.upto funSumsSpec)) funSumsUptoCard

/-- THE SECOND FORM's CARD OF 'chequerlaw8.FunIf'. -/
def funIfUptoCard : Claim7 := { stood := { row := funIfUptoRow, standIns := [], harness := (true, "e89ad98831732738caff383a252bf5a03badc8861b6f96d29270a44fde1b742a"), looks := false }, kinds := [], alts := [], laidByText := true, laidKinds := [.data, .data, .data], laidTests := true, laidLooks := .later }
def FunIfUptoCardSaid : Prop := Claim7.holds Tryd.pinned (.plain (OpenSpec.upto funIfSpec)) funIfUptoCard

/-- THE SECOND FORM's CARD OF 'chequerlaw8.FunTexts'. -/
def funTextsUptoCard : Claim7 := { stood := { row := funTextsUptoRow, standIns := [], harness := (true, "e89ad98831732738caff383a252bf5a03badc8861b6f96d29270a44fde1b742a"), looks := false }, kinds := [], alts := [], laidByText := true, laidKinds := [.data, .data, .data], laidTests := true, laidLooks := .later }
def FunTextsUptoCardSaid : Prop := Claim7.holds Tryd.pinned (.plain (OpenSpec.upto funTextsSpec)) funTextsUptoCard

/-- THE SECOND FORM's CARD OF 'chequerlaw8.FunMod'. -/
def funModUptoCard : Claim7 := { stood := { row := funModUptoRow, standIns := [], harness := (true, "e89ad98831732738caff383a252bf5a03badc8861b6f96d29270a44fde1b742a"), looks := false }, kinds := [], alts := [], laidByText := true, laidKinds := [.data, .data, .data], laidTests := true, laidLooks := .later }
def FunModUptoCardSaid : Prop := Claim7.holds Tryd.pinned (.plain (OpenSpec.upto funModSpec)) funModUptoCard

/-- THE SECOND FORM's CARD OF 'chequerlaw8.FunLogic'. -/
def funLogicUptoCard : Claim7 := { stood := { row := funLogicUptoRow, standIns := [], harness := (true, "e89ad98831732738caff383a252bf5a03badc8861b6f96d29270a44fde1b742a"), looks := false }, kinds := [], alts := [], laidByText := true, laidKinds := [.data, .data, .data], laidTests := true, laidLooks := .later }
def FunLogicUptoCardSaid : Prop := Claim7.holds Tryd.pinned (.plain (OpenSpec.upto funLogicSpec)) funLogicUptoCard

/-- THE SECOND FORM's CARD OF 'chequerlaw8.FunNothing'. -/
def funNothingUptoCard : Claim7 := { stood := { row := funNothingUptoRow, standIns := [], harness := (true, "e89ad98831732738caff383a252bf5a03badc8861b6f96d29270a44fde1b742a"), looks := false }, kinds := [], alts := [], laidByText := true, laidKinds := [.data, .data, .data], laidTests := true, laidLooks := .later }
def FunNothingUptoCardSaid : Prop := Claim7.holds Tryd.pinned (.plain (OpenSpec.upto funNothingSpec)) funNothingUptoCard
end Rows
end Go.Proofs.YtcbaioagcemmnaaDoor
