/-
  DERIVED. GIVEN WITH THE SEED: THE CARDS: each row of YtffolbpofidlkaaGreatDoorRows.lean that lists a variable, with what it lists TIED to the program's text (the seventh form; the later family's looks); each row that meets fmt, with fmt's text TOLD by the authors' own Lean function (tested against real Go, not proved from fmt's source: count such statements apart). THE CARD IS WHAT COUNTS. Prove the row's statement (the work); the ties are given (YtffolbpofidlkaaGreatDoorTie.lean); close each card by the builder's one call (the guide's Derived/Test/ToyasCard.lean, 'card_holds'). Laid BY PROGRAM, IN A SANDBOX (cutbox-door.mjs). By AI agents, Wed Nov 11 2026. No macro, syntax, notation, axiom, sorry.
-/
import Derived.Test.YtffolbpofidlkaaGreatDoorRows
import GoSem.ClaimSeven
namespace Go.Proofs.YtffolbpofidlkaaGreatDoor
namespace Rows

/-- THE TIED CARD OF 'sponsionlaw24.ClaimWindow'. -/
def claimWindowCard : Claim7 := { stood := { row := claimWindowRow, standIns := [], harness := (true, "8ca59c0d34494273a37660ad33b69d7d1557b58a31ca3eb3d05c2160b9da5550"), looks := false }, kinds := [], alts := [], laidByText := true, laidKinds := [.data, .data], laidTests := true, laidLooks := .later }
def ClaimWindowCardSaid : Prop := Claim7.holds Tryz.pinned (.plain (OpenSpec.ofChange claimWindowSpec)) claimWindowCard

/-- THE SECOND FORM's CARD OF 'sponsionlaw24.ClaimWindow'. -/
def claimWindowUptoCard : Claim7 := { stood := { row := claimWindowUptoRow, standIns := [], harness := (true, "8ca59c0d34494273a37660ad33b69d7d1557b58a31ca3eb3d05c2160b9da5550"), looks := false }, kinds := [], alts := [], laidByText := true, laidKinds := [.data, .data], laidTests := true, laidLooks := .later }
def ClaimWindowUptoCardSaid : Prop := Claim7.holds Tryz.pinned (.plain (OpenSpec.upto claimWindowSpec)) claimWindowUptoCard
end Rows
end Go.Proofs.YtffolbpofidlkaaGreatDoor
