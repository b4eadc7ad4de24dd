/-
  DERIVED. GIVEN WITH THE SEED: THE PROGRAM's TIES (one call each: nine closed facts by the kernel) AND EACH ROW's TIE, after the 31st guide's Derived/Test/Toyas{Tie, Card}.lean. No idea stands in it: it is a product of the set-up. Laid BY PROGRAM, IN A SANDBOX (cutbox-door.mjs). By AI agents, Wed Nov 11 2026. No macro, syntax, notation, axiom, sorry.
-/
import Derived.Test.YtbdfepjommajhaaDoorRows
import Derived.LaidByTextLater
import Derived.SevenTiedAt
import Derived.LaidSub
import Derived.LaidOnce
namespace Go.Proofs.YtbdfepjommajhaaDoor
open Go
set_option maxRecDepth 100000
theorem seatTie1 : Tryd.prog.laidByTextLater [("sponsion/sponsionref05.rounds", Rows.laid_sponsion_sponsionref05_rounds), ("sponsion/digest.begin", Rows.laid_sponsion_digest_begin), ("sponsion/digest.rounds", Rows.laid_sponsion_digest_rounds)] [.data, .data, .data] true :=
  Program.laidByTextLater_by_one 24 8 65 (by kernel_rfl) (by kernel_rfl) (by kernel_rfl) (by kernel_rfl) (by kernel_rfl) (by kernel_rfl) (fun _ _ => by kernel_rfl)
theorem noOwnUnsafe : Tryd.pinned.checked.prog.headLifts.contains "ownunsafe" = false := by kernel_rfl
theorem tie : Tryd.prog.laidByTextLater [("sponsion/digest.begin", Rows.laid_sponsion_digest_begin), ("sponsion/digest.rounds", Rows.laid_sponsion_digest_rounds)] [.data, .data] true :=
  Program.laidByTextLater.sub seatTie1 ["sponsion/digest.begin", "sponsion/digest.rounds"] (by kernel_rfl) (by kernel_rfl)
theorem ticketTells_row_tie : Rows.ticketTellsRow.laidByTextAt .later Tryd.pinned [.data, .data] true :=
  OpenClaim.laidByTextAt_later rfl rfl tie noOwnUnsafe
theorem tie2 : Tryd.prog.laidByTextLater [("sponsion/sponsionref05.rounds", Rows.laid_sponsion_sponsionref05_rounds), ("sponsion/digest.begin", Rows.laid_sponsion_digest_begin), ("sponsion/digest.rounds", Rows.laid_sponsion_digest_rounds)] [.data, .data, .data] true :=
  Program.laidByTextLater.sub seatTie1 ["sponsion/sponsionref05.rounds", "sponsion/digest.begin", "sponsion/digest.rounds"] (by kernel_rfl) (by kernel_rfl)
theorem ticketPlays_row_tie : Rows.ticketPlaysRow.laidByTextAt .later Tryd.pinned [.data, .data, .data] true :=
  OpenClaim.laidByTextAt_later rfl rfl tie2 noOwnUnsafe
theorem ticketTellsUpto_row_tie : Rows.ticketTellsUptoRow.laidByTextAt .later Tryd.pinned [.data, .data] true :=
  OpenClaim.laidByTextAt_later rfl rfl tie noOwnUnsafe
theorem ticketPlaysUpto_row_tie : Rows.ticketPlaysUptoRow.laidByTextAt .later Tryd.pinned [.data, .data, .data] true :=
  OpenClaim.laidByTextAt_later rfl rfl tie2 noOwnUnsafe
end Go.Proofs.YtbdfepjommajhaaDoor
