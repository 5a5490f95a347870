/-
  DERIVED. GIVEN WITH THE SEED: THE CARDS: each row of YtlfkachphpneiaaDoorRows.lean that lists a variable, with what it lists TIED to the program's text (the seventh form; the later family's looks); each row that meets fmt, with fmt's text TOLD by the authors' own Lean function (tested against real Go, not proved from fmt's source: count such statements apart). THE CARD IS WHAT COUNTS. Prove the row's statement (the work); the ties are given (YtlfkachphpneiaaDoorTie.lean); close each card by the builder's one call (the guide's Derived/Test/ToyasCard.lean, 'card_holds'). Laid BY PROGRAM, IN A SANDBOX (cutbox-door.mjs). By AI agents, Wed Nov 11 2026. No macro, syntax, notation, axiom, sorry.
-/
import Derived.Test.YtlfkachphpneiaaDoorRows
import GoSem.ClaimSeven
namespace Go.Proofs.YtlfkachphpneiaaDoor
namespace Rows

/-- THE TIED CARD OF 'loomlaw2.CplxSpoilt'. -/
def cplxSpoiltCard : Claim7 := { stood := { row := cplxSpoiltRow, standIns := [], harness := (true, "d419293a485c83da6c70382f74e6f65a7ae371d9eb04221fabc7438b4753e72d"), looks := true }, kinds := [], alts := [], laidByText := true, laidKinds := [.data, .data, .data, .sentinel, .sentinel], laidTests := true, laidLooks := .later }
def CplxSpoiltCardSaid : Prop := Claim7.holds Tryd.pinned (.plain (OpenSpec.ofChange cplxSpoiltSpec)) cplxSpoiltCard

/-- THE TIED CARD OF 'loomlaw2.CplxBack'. -/
def cplxBackCard : Claim7 := { stood := { row := cplxBackRow, standIns := [], harness := (true, "d419293a485c83da6c70382f74e6f65a7ae371d9eb04221fabc7438b4753e72d"), looks := true }, kinds := [], alts := [], laidByText := true, laidKinds := [.data, .data, .data, .sentinel, .sentinel], laidTests := true, laidLooks := .later }
def CplxBackCardSaid : Prop := Claim7.holds Tryd.pinned (.plain (OpenSpec.ofChange cplxBackSpec)) cplxBackCard

/-- THE TIED CARD OF 'loomlaw2.CplxTurns'. -/
def cplxTurnsCard : Claim7 := { stood := { row := cplxTurnsRow, standIns := [], harness := (true, "d419293a485c83da6c70382f74e6f65a7ae371d9eb04221fabc7438b4753e72d"), looks := true }, kinds := [], alts := [], laidByText := true, laidKinds := [.data, .data, .data, .sentinel, .sentinel], laidTests := true, laidLooks := .later }
def CplxTurnsCardSaid : Prop := Claim7.holds Tryd.pinned (.plain (OpenSpec.ofChange cplxTurnsSpec)) cplxTurnsCard

/-- THE TIED CARD OF 'loomlaw2.CplxTells'. -/
def cplxTellsCard : Claim7 := { stood := { row := cplxTellsRow, standIns := [], harness := (true, "d419293a485c83da6c70382f74e6f65a7ae371d9eb04221fabc7438b4753e72d"), looks := true }, kinds := [], alts := [], laidByText := true, laidKinds := [.data, .data, .data, .sentinel, .sentinel], laidTests := true, laidLooks := .later }
def CplxTellsCardSaid : Prop := Claim7.holds Tryd.pinned (.plain (OpenSpec.ofChange cplxTellsSpec)) cplxTellsCard

/-- THE TIED CARD OF 'loomlaw2.CplxWhole'. -/
def cplxWholeCard : Claim7 := { stood := { row := cplxWholeRow, standIns := [], harness := (true, "d419293a485c83da6c70382f74e6f65a7ae371d9eb04221fabc7438b4753e72d"), looks := true }, kinds := [], alts := [], laidByText := true, laidKinds := [.data, .data, .data, .sentinel, .sentinel], laidTests := true, laidLooks := .later }
def CplxWholeCardSaid : Prop := Claim7.holds Tryd.pinned (.plain (OpenSpec.ofChange cplxWholeSpec)) cplxWholeCard

/-- THE SECOND FORM's CARD OF 'loomlaw2.CplxSpoilt'. -/
def cplxSpoiltUptoCard : Claim7 := { stood := { row := cplxSpoiltUptoRow, standIns := [], harness := (true, "d419293a485c83da6c70382f74e6f65a7ae371d9eb04221fabc7438b4753e72d"), looks := true }, kinds := [], alts := [], laidByText := true, laidKinds := [.data, .data, .data, .sentinel, .sentinel], laidTests := true, laidLooks := .later }
def CplxSpoiltUptoCardSaid : Prop := Claim7.holds Tryd.pinned (.plain (OpenSpec.upto cplxSpoiltSpec)) cplxSpoiltUptoCard

/-- THE SECOND FORM's CARD OF 'loomlaw2.CplxBack'. -/
def cplxBackUptoCard : Claim7 := { stood := { row := cplxBackUptoRow, standIns := [], harness := (true, "d419293a485c83da6c70382f74e6f65a7ae371d9eb04221fabc7438b4753e72d"), looks := true }, kinds := [], alts := [], laidByText := true, laidKinds := [.data, .data, .data, .sentinel, .sentinel], laidTests := true, laidLooks := .later }
def CplxBackUptoCardSaid : Prop := Claim7.holds Tryd.pinned (.plain (OpenSpec.upto cplxBackSpec)) cplxBackUptoCard

/-- THE SECOND FORM's CARD OF 'loomlaw2.CplxTurns'. -/
def cplxTurnsUptoCard : Claim7 := { stood := { row := cplxTurnsUptoRow, standIns := [], harness := (true, "d419293a485c83da6c70382f74e6f65a7ae371d9eb04221fabc7438b4753e72d"), looks := true }, kinds := [], alts := [], laidByText := true, laidKinds := [.data, .data, .data, .sentinel, .sentinel], laidTests := true, laidLooks := .later }
def CplxTurnsUptoCardSaid : Prop := Claim7.holds Tryd.pinned (.plain (OpenSpec.upto cplxTurnsSpec)) cplxTurnsUptoCard

/-- THE SECOND FORM's CARD OF 'loomlaw2.CplxTells'. -/
def cplxTellsUptoCard : Claim7 := { stood := { row := cplxTellsUptoRow, standIns := [], harness := (true, "d419293a485c83da6c70382f74e6f65a7ae371d9eb04221fabc7438b4753e72d"), looks := true }, kinds := [], alts := [], laidByText := true, laidKinds := [.data, .data, .data, .sentinel, .sentinel], laidTests := true, laidLooks := .later }
def CplxTellsUptoCardSaid : Prop := Claim7.holds Tryd.pinned (.plain (OpenSpec.upto cplxTellsSpec)) cplxTellsUptoCard

/-- THE SECOND FORM's CARD OF 'loomlaw2.CplxWhole'. -/
def cplxWholeUptoCard : Claim7 := { stood := { row := cplxWholeUptoRow, standIns := [], harness := (true, "d419293a485c83da6c70382f74e6f65a7ae371d9eb04221fabc7438b4753e72d"), looks := true }, kinds := [], alts := [], laidByText := true, laidKinds := [.data, .data, .data, .sentinel, .sentinel], laidTests := true, laidLooks := .later }
def CplxWholeUptoCardSaid : Prop := Claim7.holds Tryd.pinned (.plain (OpenSpec.upto cplxWholeSpec)) cplxWholeUptoCard
end Rows
end Go.Proofs.YtlfkachphpneiaaDoor
