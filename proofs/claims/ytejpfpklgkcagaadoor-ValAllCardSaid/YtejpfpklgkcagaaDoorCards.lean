/-
  DERIVED. GIVEN WITH THE SEED: THE CARDS: each row of YtejpfpklgkcagaaDoorRows.lean that lists a variable, with what it lists TIED to the program's text (the seventh form; the later family's looks); each row that meets fmt, with fmt's text TOLD by the authors' own Lean function (tested against real Go, not proved from fmt's source: count such statements apart). THE CARD IS WHAT COUNTS. Prove the row's statement (the work); the ties are given (YtejpfpklgkcagaaDoorTie.lean); close each card by the builder's one call (the guide's Derived/Test/ToyasCard.lean, 'card_holds'). Laid BY PROGRAM, IN A SANDBOX (cutbox-door.mjs). By AI agents, Wed Nov 11 2026. No macro, syntax, notation, axiom, sorry.
-/
import Derived.Test.YtejpfpklgkcagaaDoorRows
import GoSem.ClaimSeven
namespace Go.Proofs.YtejpfpklgkcagaaDoor
namespace Rows

/-- THE TIED CARD OF 'chequerlaw7.ValOrder'. -/
def valOrderCard : Claim7 := { stood := { row := valOrderRow, standIns := [], harness := (true, "a73482ac660d0ed4fecd3b772ecbc69c7a5bb8f031bded4ba609f0538cda7dce"), looks := false }, kinds := [], alts := [], laidByText := true, laidKinds := [.data, .data, .data], laidTests := true, laidLooks := .later }
def ValOrderCardSaid : Prop := Claim7.holds Tryd.pinned (.plain (OpenSpec.ofChange valOrderSpec)) valOrderCard

/-- THE TIED CARD OF 'chequerlaw7.ValCat'. -/
def valCatCard : Claim7 := { stood := { row := valCatRow, standIns := [], harness := (true, "a73482ac660d0ed4fecd3b772ecbc69c7a5bb8f031bded4ba609f0538cda7dce"), looks := false }, kinds := [], alts := [], laidByText := true, laidKinds := [.data, .data, .data], laidTests := true, laidLooks := .later }
def ValCatCardSaid : Prop := Claim7.holds Tryd.pinned (.plain (OpenSpec.ofChange valCatSpec)) valCatCard

/-- THE TIED CARD OF 'chequerlaw7.ValOps'. -/
def valOpsCard : Claim7 := { stood := { row := valOpsRow, standIns := [], harness := (true, "a73482ac660d0ed4fecd3b772ecbc69c7a5bb8f031bded4ba609f0538cda7dce"), looks := false }, kinds := [], alts := [], laidByText := true, laidKinds := [.data, .data, .data], laidTests := true, laidLooks := .later }
def ValOpsCardSaid : Prop := Claim7.holds Tryd.pinned (.plain (OpenSpec.ofChange valOpsSpec)) valOpsCard

/-- THE TIED CARD OF 'chequerlaw7.ValSums'. -/
def valSumsCard : Claim7 := { stood := { row := valSumsRow, standIns := [], harness := (true, "a73482ac660d0ed4fecd3b772ecbc69c7a5bb8f031bded4ba609f0538cda7dce"), looks := false }, kinds := [], alts := [], laidByText := true, laidKinds := [.data, .data, .data], laidTests := true, laidLooks := .later }
def ValSumsCardSaid : Prop := Claim7.holds Tryd.pinned (.plain (OpenSpec.ofChange valSumsSpec)) valSumsCard

/-- THE TIED CARD OF 'chequerlaw7.ValErrors'. -/
def valErrorsCard : Claim7 := { stood := { row := valErrorsRow, standIns := [], harness := (true, "a73482ac660d0ed4fecd3b772ecbc69c7a5bb8f031bded4ba609f0538cda7dce"), looks := false }, kinds := [], alts := [], laidByText := true, laidKinds := [.data, .data, .data], laidTests := true, laidLooks := .later }
def ValErrorsCardSaid : Prop := Claim7.holds Tryd.pinned (.plain (OpenSpec.ofChange valErrorsSpec)) valErrorsCard

/-- THE TIED CARD OF 'chequerlaw7.ValAll'. -/
def valAllCard : Claim7 := { stood := { row := valAllRow, standIns := [], harness := (true, "a73482ac660d0ed4fecd3b772ecbc69c7a5bb8f031bded4ba609f0538cda7dce"), looks := false }, kinds := [], alts := [], laidByText := true, laidKinds := [.data, .data, .data], laidTests := true, laidLooks := .later }
def ValAllCardSaid : Prop := Claim7.holds Tryd.pinned (.plain (OpenSpec.ofChange valAllSpec)) valAllCard

/-- THE SECOND FORM's CARD OF 'chequerlaw7.ValOrder'. -/
def valOrderUptoCard : Claim7 := { stood := { row := valOrderUptoRow, standIns := [], harness := (true, "a73482ac660d0ed4fecd3b772ecbc69c7a5bb8f031bded4ba609f0538cda7dce"), looks := false }, kinds := [], alts := [], laidByText := true, laidKinds := [.data, .data, .data], laidTests := true, laidLooks := .later }
def ValOrderUptoCardSaid : Prop := Claim7.holds Tryd.pinned (.plain (OpenSpec.upto valOrderSpec)) valOrderUptoCard

/-- THE SECOND FORM's CARD OF 'chequerlaw7.ValCat'. -/
def valCatUptoCard : Claim7 := { stood := { row := valCatUptoRow, standIns := [], harness := (true, "a73482ac660d0ed4fecd3b772ecbc69c7a5bb8f031bded4ba609f0538cda7dce"), looks := false }, kinds := [], alts := [], laidByText := true, laidKinds := [.data, .data, .data], laidTests := true, laidLooks := .later }
def ValCatUptoCardSaid : Prop := Claim7.holds Tryd.pinned (.plain (OpenSpec.upto valCatSpec)) valCatUptoCard

/-- THE SECOND FORM's CARD OF 'chequerlaw7.ValOps'. -/
def valOpsUptoCard : Claim7 := { stood := { row := valOpsUptoRow, standIns := [], harness := (true, "a73482ac660d0ed4fecd3b772ecbc69c7a5bb8f031bded4ba609f0538cda7dce"), looks := false }, kinds := [], alts := [], laidByText := true, laidKinds := [.data, .data, .data], laidTests := true, laidLooks := .later }
def ValOpsUptoCardSaid : Prop := Claim7.holds Tryd.pinned (.plain (OpenSpec.upto valOpsSpec)) valOpsUptoCard

/-- THE SECOND FORM's CARD OF 'chequerlaw7.ValSums'. -/
def valSumsUptoCard : Claim7 := { stood := { row := valSumsUptoRow, standIns := [], harness := (true, "a73482ac660d0ed4fecd3b772ecbc69c7a5bb8f031bded4ba609f0538cda7dce"), looks := false }, kinds := [], alts := [], laidByText := true, laidKinds := [.data, .data, .data], laidTests := true, laidLooks := .later }
def ValSumsUptoCardSaid : Prop := Claim7.holds Tryd.pinned (.plain (OpenSpec.upto valSumsSpec)) valSumsUptoCard

/-- THE SECOND FORM's CARD OF 'chequerlaw7.ValErrors'. -/
def valErrorsUptoCard : Claim7 := { stood := { row := valErrorsUptoRow, standIns := [], harness := (true, "a73482ac660d0ed4fecd3b772ecbc69c7a5bb8f031bded4ba609f0538cda7dce"), looks := false }, kinds := [], alts := [], laidByText := true, laidKinds := [.data, .data, .data], laidTests := true, laidLooks := .later }
def ValErrorsUptoCardSaid : Prop := Claim7.holds Tryd.pinned (.plain (OpenSpec.upto valErrorsSpec)) valErrorsUptoCard

/-- THE SECOND FORM's CARD OF 'chequerlaw7.ValAll'. -/
def valAllUptoCard : Claim7 := { stood := { row := valAllUptoRow, standIns := [], harness := (true, "a73482ac660d0ed4fecd3b772ecbc69c7a5bb8f031bded4ba609f0538cda7dce"), looks := false }, kinds := [], alts := [], laidByText := true, laidKinds := [.data, .data, .data], laidTests := true, laidLooks := .later }
def ValAllUptoCardSaid : Prop := Claim7.holds Tryd.pinned (.plain (OpenSpec.upto valAllSpec)) valAllUptoCard
end Rows
end Go.Proofs.YtejpfpklgkcagaaDoor
