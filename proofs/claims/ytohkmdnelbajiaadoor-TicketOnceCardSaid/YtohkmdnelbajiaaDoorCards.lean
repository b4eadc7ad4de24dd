/-
  DERIVED. GIVEN WITH THE SEED: THE CARDS: each row of YtohkmdnelbajiaaDoorRows.lean that lists a variable, with what it lists TIED to the program's text (the seventh form; the later family's looks); each row that meets fmt, with fmt's text TOLD by the authors' own Lean function (tested against real Go, not proved from fmt's source: count such statements apart). THE CARD IS WHAT COUNTS. Prove the row's statement (the work); the ties are given (YtohkmdnelbajiaaDoorTie.lean); close each card by the builder's one call (the guide's Derived/Test/ToyasCard.lean, 'card_holds'). Laid BY PROGRAM, IN A SANDBOX (cutbox-door.mjs). By AI agents, Wed Nov 11 2026. No macro, syntax, notation, axiom, sorry.
-/
import Derived.Test.YtohkmdnelbajiaaDoorRows
import GoSem.ClaimSeven
namespace Go.Proofs.YtohkmdnelbajiaaDoor
namespace Rows

/-- THE TIED CARD OF 'sponsionlaw22.TicketOnce'. -/
def ticketOnceCard : Claim7 := { stood := { row := ticketOnceRow, standIns := [], harness := (true, "50ab3a6e4d566307ec30a8d2f91b02d1fff12ee42c03bbf8e155e97609e03277"), looks := false }, kinds := [], alts := [], laidByText := true, laidKinds := [.data, .data], laidTests := true, laidLooks := .later }
def TicketOnceCardSaid : Prop := Claim7.holds Tryd.pinned (.plain (OpenSpec.ofChange ticketOnceSpec)) ticketOnceCard

/-- THE TIED CARD OF 'sponsionlaw22.TicketPlays'. -/
def ticketPlaysCard : Claim7 := { stood := { row := ticketPlaysRow, standIns := [], harness := (true, "50ab3a6e4d566307ec30a8d2f91b02d1fff12ee42c03bbf8e155e97609e03277"), looks := false }, kinds := [], alts := [], laidByText := true, laidKinds := [.data, .data, .data], laidTests := true, laidLooks := .later }
def TicketPlaysCardSaid : Prop := Claim7.holds Tryd.pinned (.plain (OpenSpec.ofChange ticketPlaysSpec)) ticketPlaysCard

/-- THE SECOND FORM's CARD OF 'sponsionlaw22.TicketOnce'. -/
def ticketOnceUptoCard : Claim7 := { stood := { row := ticketOnceUptoRow, standIns := [], harness := (true, "50ab3a6e4d566307ec30a8d2f91b02d1fff12ee42c03bbf8e155e97609e03277"), looks := false }, kinds := [], alts := [], laidByText := true, laidKinds := [.data, .data], laidTests := true, laidLooks := .later }
def TicketOnceUptoCardSaid : Prop := Claim7.holds Tryd.pinned (.plain (OpenSpec.upto ticketOnceSpec)) ticketOnceUptoCard

/-- THE SECOND FORM's CARD OF 'sponsionlaw22.TicketPlays'. -/
def ticketPlaysUptoCard : Claim7 := { stood := { row := ticketPlaysUptoRow, standIns := [], harness := (true, "50ab3a6e4d566307ec30a8d2f91b02d1fff12ee42c03bbf8e155e97609e03277"), looks := false }, kinds := [], alts := [], laidByText := true, laidKinds := [.data, .data, .data], laidTests := true, laidLooks := .later }
def TicketPlaysUptoCardSaid : Prop := Claim7.holds Tryd.pinned (.plain (OpenSpec.upto ticketPlaysSpec)) ticketPlaysUptoCard
end Rows
end Go.Proofs.YtohkmdnelbajiaaDoor
