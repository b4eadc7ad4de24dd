/-
  DERIVED. GIVEN WITH THE SEED: THE CARDS: each row of YtmepmbekkbhecaaDoorRows.lean that lists a variable, with what it lists TIED to the program's text (the seventh form; the later family's looks); each row that meets fmt, with fmt's text TOLD by the authors' own Lean function (tested against real Go, not proved from fmt's source: count such statements apart). THE CARD IS WHAT COUNTS. Prove the row's statement (the work); the ties are given (YtmepmbekkbhecaaDoorTie.lean); close each card by the builder's one call (the guide's Derived/Test/ToyasCard.lean, 'card_holds'). Laid BY PROGRAM, IN A SANDBOX (cutbox-door.mjs). By AI agents, Wed Nov 11 2026. No macro, syntax, notation, axiom, sorry.
-/
import Derived.Test.YtmepmbekkbhecaaDoorRows
import GoSem.ClaimSeven
namespace Go.Proofs.YtmepmbekkbhecaaDoor
namespace Rows

/-- THE TIED CARD OF 'sponsionlaw18.SpentTold'. -/
def spentToldCard : Claim7 := { stood := { row := spentToldRow, standIns := [], harness := (true, "f962f972055f60704dfc6e0c728a15c27c47b20fe8128adcb49a1d16f7d3e19c"), looks := true }, kinds := [], alts := [], laidByText := true, laidKinds := [.data], laidTests := true, laidLooks := .later }
def SpentToldCardSaid : Prop := Claim7.holds Tryd.pinned (.plain (OpenSpec.ofChange spentToldSpec)) spentToldCard

/-- THE TIED CARD OF 'sponsionlaw18.SpentPlays'. -/
def spentPlaysCard : Claim7 := { stood := { row := spentPlaysRow, standIns := [], harness := (true, "f962f972055f60704dfc6e0c728a15c27c47b20fe8128adcb49a1d16f7d3e19c"), looks := true }, kinds := [], alts := [], laidByText := true, laidKinds := [.data], laidTests := true, laidLooks := .later }
def SpentPlaysCardSaid : Prop := Claim7.holds Tryd.pinned (.plain (OpenSpec.ofChange spentPlaysSpec)) spentPlaysCard

/-- THE SECOND FORM's CARD OF 'sponsionlaw18.SpentTold'. -/
def spentToldUptoCard : Claim7 := { stood := { row := spentToldUptoRow, standIns := [], harness := (true, "f962f972055f60704dfc6e0c728a15c27c47b20fe8128adcb49a1d16f7d3e19c"), looks := true }, kinds := [], alts := [], laidByText := true, laidKinds := [.data], laidTests := true, laidLooks := .later }
def SpentToldUptoCardSaid : Prop := Claim7.holds Tryd.pinned (.plain (OpenSpec.upto spentToldSpec)) spentToldUptoCard

/-- THE SECOND FORM's CARD OF 'sponsionlaw18.SpentPlays'. -/
def spentPlaysUptoCard : Claim7 := { stood := { row := spentPlaysUptoRow, standIns := [], harness := (true, "f962f972055f60704dfc6e0c728a15c27c47b20fe8128adcb49a1d16f7d3e19c"), looks := true }, kinds := [], alts := [], laidByText := true, laidKinds := [.data], laidTests := true, laidLooks := .later }
def SpentPlaysUptoCardSaid : Prop := Claim7.holds Tryd.pinned (.plain (OpenSpec.upto spentPlaysSpec)) spentPlaysUptoCard
end Rows
end Go.Proofs.YtmepmbekkbhecaaDoor
