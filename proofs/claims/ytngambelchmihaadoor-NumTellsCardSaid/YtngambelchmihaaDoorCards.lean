/-
  DERIVED. GIVEN WITH THE SEED: THE CARDS: each row of YtngambelchmihaaDoorRows.lean that lists a variable, with what it lists TIED to the program's text (the seventh form; the later family's looks); each row that meets fmt, with fmt's text TOLD by the authors' own Lean function (tested against real Go, not proved from fmt's source: count such statements apart). THE CARD IS WHAT COUNTS. Prove the row's statement (the work); the ties are given (YtngambelchmihaaDoorTie.lean); close each card by the builder's one call (the guide's Derived/Test/ToyasCard.lean, 'card_holds'). Laid BY PROGRAM, IN A SANDBOX (cutbox-door.mjs). By AI agents, Wed Nov 11 2026. No macro, syntax, notation, axiom, sorry.
-/
import Derived.Test.YtngambelchmihaaDoorRows
import GoSem.ClaimSeven
namespace Go.Proofs.YtngambelchmihaaDoor
namespace Rows

/-- THE TIED CARD OF 'loomlaw1.NumSpoilt'. -/
def numSpoiltCard : Claim7 := { stood := { row := numSpoiltRow, standIns := [], harness := (true, "d031707c19215511234168af7a6b00aa2a7a502d714f550bcb45d3a981522eeb"), looks := true }, kinds := [], alts := [], laidByText := true, laidKinds := [.data, .data, .data, .sentinel, .sentinel], laidTests := true, laidLooks := .later }
def NumSpoiltCardSaid : Prop := Claim7.holds Tryd.pinned (.plain (OpenSpec.ofChange numSpoiltSpec)) numSpoiltCard

/-- THE TIED CARD OF 'loomlaw1.NumBack'. -/
def numBackCard : Claim7 := { stood := { row := numBackRow, standIns := [], harness := (true, "d031707c19215511234168af7a6b00aa2a7a502d714f550bcb45d3a981522eeb"), looks := true }, kinds := [], alts := [], laidByText := true, laidKinds := [.data, .data, .data, .sentinel, .sentinel], laidTests := true, laidLooks := .later }
def NumBackCardSaid : Prop := Claim7.holds Tryd.pinned (.plain (OpenSpec.ofChange numBackSpec)) numBackCard

/-- THE TIED CARD OF 'loomlaw1.NumTells'. -/
def numTellsCard : Claim7 := { stood := { row := numTellsRow, standIns := [], harness := (true, "d031707c19215511234168af7a6b00aa2a7a502d714f550bcb45d3a981522eeb"), looks := true }, kinds := [], alts := [], laidByText := true, laidKinds := [.data, .data, .data, .sentinel, .sentinel], laidTests := true, laidLooks := .later }
def NumTellsCardSaid : Prop := Claim7.holds Tryd.pinned (.plain (OpenSpec.ofChange numTellsSpec)) numTellsCard

/-- THE SECOND FORM's CARD OF 'loomlaw1.NumSpoilt'. -/
def numSpoiltUptoCard : Claim7 := { stood := { row := numSpoiltUptoRow, standIns := [], harness := (true, "d031707c19215511234168af7a6b00aa2a7a502d714f550bcb45d3a981522eeb"), looks := true }, kinds := [], alts := [], laidByText := true, laidKinds := [.data, .data, .data, .sentinel, .sentinel], laidTests := true, laidLooks := .later }
def NumSpoiltUptoCardSaid : Prop := Claim7.holds Tryd.pinned (.plain (OpenSpec.upto numSpoiltSpec)) numSpoiltUptoCard

/-- THE SECOND FORM's CARD OF 'loomlaw1.NumBack'. -/
def numBackUptoCard : Claim7 := { stood := { row := numBackUptoRow, standIns := [], harness := (true, "d031707c19215511234168af7a6b00aa2a7a502d714f550bcb45d3a981522eeb"), looks := true }, kinds := [], alts := [], laidByText := true, laidKinds := [.data, .data, .data, .sentinel, .sentinel], laidTests := true, laidLooks := .later }
def NumBackUptoCardSaid : Prop := Claim7.holds Tryd.pinned (.plain (OpenSpec.upto numBackSpec)) numBackUptoCard

/-- THE SECOND FORM's CARD OF 'loomlaw1.NumTells'. -/
def numTellsUptoCard : Claim7 := { stood := { row := numTellsUptoRow, standIns := [], harness := (true, "d031707c19215511234168af7a6b00aa2a7a502d714f550bcb45d3a981522eeb"), looks := true }, kinds := [], alts := [], laidByText := true, laidKinds := [.data, .data, .data, .sentinel, .sentinel], laidTests := true, laidLooks := .later }
def NumTellsUptoCardSaid : Prop := Claim7.holds Tryd.pinned (.plain (OpenSpec.upto numTellsSpec)) numTellsUptoCard
end Rows
end Go.Proofs.YtngambelchmihaaDoor
