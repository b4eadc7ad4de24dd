/-
  DERIVED. GIVEN WITH THE SEED: THE CARDS: each row of YtbdfepjommajhaaDoorRows.lean that lists a variable, with what it lists TIED to the program's text (the seventh form; the later family's looks); each row that meets fmt, with fmt's text TOLD by the authors' own Lean function (tested against real Go, not proved from fmt's source: count such statements apart). THE CARD IS WHAT COUNTS. Prove the row's statement (the work); the ties are given (YtbdfepjommajhaaDoorTie.lean); close each card by the builder's one call (the guide's Derived/Test/ToyasCard.lean, 'card_holds'). Laid BY PROGRAM, IN A SANDBOX (cutbox-door.mjs). By AI agents, Wed Nov 11 2026. No macro, syntax, notation, axiom, sorry.
-/
import Derived.Test.YtbdfepjommajhaaDoorRows
import GoSem.ClaimSeven
namespace Go.Proofs.YtbdfepjommajhaaDoor
namespace Rows

/-- THE TIED CARD OF 'sponsionlaw22.TicketTells'. -/
def ticketTellsCard : Claim7 := { stood := { row := ticketTellsRow, standIns := [], harness := (true, "8a4af9c78b2ee2d9438155693681017ddc5eed95bf681047fc32ea828eb200ed"), looks := true }, kinds := [], alts := [], laidByText := true, laidKinds := [.data, .data], laidTests := true, laidLooks := .later }
def TicketTellsCardSaid : Prop := Claim7.holds Tryd.pinned (.plain (OpenSpec.ofChange ticketTellsSpec)) ticketTellsCard

/-- THE TIED CARD OF 'sponsionlaw22.TicketPlays'. -/
def ticketPlaysCard : Claim7 := { stood := { row := ticketPlaysRow, standIns := [], harness := (true, "8a4af9c78b2ee2d9438155693681017ddc5eed95bf681047fc32ea828eb200ed"), looks := true }, kinds := [], alts := [], laidByText := true, laidKinds := [.data, .data, .data], laidTests := true, laidLooks := .later }
def TicketPlaysCardSaid : Prop := Claim7.holds Tryd.pinned (.plain (OpenSpec.ofChange ticketPlaysSpec)) ticketPlaysCard

/-- THE SECOND FORM's CARD OF 'sponsionlaw22.TicketTells'. -/
def ticketTellsUptoCard : Claim7 := { stood := { row := ticketTellsUptoRow, standIns := [], harness := (true, "8a4af9c78b2ee2d9438155693681017ddc5eed95bf681047fc32ea828eb200ed"), looks := true }, kinds := [], alts := [], laidByText := true, laidKinds := [.data, .data], laidTests := true, laidLooks := .later }
def TicketTellsUptoCardSaid : Prop := Claim7.holds Tryd.pinned (.plain (OpenSpec.upto ticketTellsSpec)) ticketTellsUptoCard

/-- THE SECOND FORM's CARD OF 'sponsionlaw22.TicketPlays'. -/
def ticketPlaysUptoCard : Claim7 := { stood := { row := ticketPlaysUptoRow, standIns := [], harness := (true, "8a4af9c78b2ee2d9438155693681017ddc5eed95bf681047fc32ea828eb200ed"), looks := true }, kinds := [], alts := [], laidByText := true, laidKinds := [.data, .data, .data], laidTests := true, laidLooks := .later }
def TicketPlaysUptoCardSaid : Prop := Claim7.holds Tryd.pinned (.plain (OpenSpec.upto ticketPlaysSpec)) ticketPlaysUptoCard
end Rows
end Go.Proofs.YtbdfepjommajhaaDoor
