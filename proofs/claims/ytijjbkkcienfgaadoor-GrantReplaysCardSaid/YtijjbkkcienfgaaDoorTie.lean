/-
  DERIVED. GIVEN WITH THE SEED: THE PROGRAM's TIES (one call each: nine closed facts by the kernel) AND EACH ROW's TIE, after the 31st guide's Derived/Test/Toyas{Tie, Card}.lean. No idea stands in it: it is a product of the set-up. Laid BY PROGRAM, IN A SANDBOX (cutbox-door.mjs). By AI agents, Wed Nov 11 2026. No macro, syntax, notation, axiom, sorry.
-/
import Derived.Test.YtijjbkkcienfgaaDoorRows
import Derived.LaidByTextLater
import Derived.SevenTiedAt
import Derived.LaidSub
import Derived.LaidOnce
namespace Go.Proofs.YtijjbkkcienfgaaDoor
open Go
set_option maxRecDepth 100000
theorem seatTie1 : Tryd.prog.laidByTextLater [("weirkeep/span.whole", Rows.laid_weirkeep_span_whole), ("weirkeep/grant.kinds", Rows.laid_weirkeep_grant_kinds)] [.data, .funcs] true :=
  Program.laidByTextLater_by_one 19 8 3 (by kernel_rfl) (by kernel_rfl) (by kernel_rfl) (by kernel_rfl) (by kernel_rfl) (by kernel_rfl) (fun _ _ => by kernel_rfl)
theorem noOwnUnsafe : Tryd.pinned.checked.prog.headLifts.contains "ownunsafe" = false := by kernel_rfl
theorem tie : Tryd.prog.laidByTextLater [("weirkeep/span.whole", Rows.laid_weirkeep_span_whole), ("weirkeep/grant.kinds", Rows.laid_weirkeep_grant_kinds)] [.data, .funcs] true :=
  Program.laidByTextLater.sub seatTie1 ["weirkeep/span.whole", "weirkeep/grant.kinds"] (by kernel_rfl) (by kernel_rfl)
theorem grantDead_row_tie : Rows.grantDeadRow.laidByTextAt .later Tryd.pinned [.data, .funcs] true :=
  OpenClaim.laidByTextAt_later rfl rfl tie noOwnUnsafe
theorem grantLives_row_tie : Rows.grantLivesRow.laidByTextAt .later Tryd.pinned [.data, .funcs] true :=
  OpenClaim.laidByTextAt_later rfl rfl tie noOwnUnsafe
theorem grantScript_row_tie : Rows.grantScriptRow.laidByTextAt .later Tryd.pinned [.data, .funcs] true :=
  OpenClaim.laidByTextAt_later rfl rfl tie noOwnUnsafe
theorem grantApart_row_tie : Rows.grantApartRow.laidByTextAt .later Tryd.pinned [.data, .funcs] true :=
  OpenClaim.laidByTextAt_later rfl rfl tie noOwnUnsafe
theorem grantServes_row_tie : Rows.grantServesRow.laidByTextAt .later Tryd.pinned [.data, .funcs] true :=
  OpenClaim.laidByTextAt_later rfl rfl tie noOwnUnsafe
theorem grantReaders_row_tie : Rows.grantReadersRow.laidByTextAt .later Tryd.pinned [.data, .funcs] true :=
  OpenClaim.laidByTextAt_later rfl rfl tie noOwnUnsafe
theorem grantCancels_row_tie : Rows.grantCancelsRow.laidByTextAt .later Tryd.pinned [.data, .funcs] true :=
  OpenClaim.laidByTextAt_later rfl rfl tie noOwnUnsafe
theorem grantReplays_row_tie : Rows.grantReplaysRow.laidByTextAt .later Tryd.pinned [.data, .funcs] true :=
  OpenClaim.laidByTextAt_later rfl rfl tie noOwnUnsafe
theorem grantDeadUpto_row_tie : Rows.grantDeadUptoRow.laidByTextAt .later Tryd.pinned [.data, .funcs] true :=
  OpenClaim.laidByTextAt_later rfl rfl tie noOwnUnsafe
theorem grantLivesUpto_row_tie : Rows.grantLivesUptoRow.laidByTextAt .later Tryd.pinned [.data, .funcs] true :=
  OpenClaim.laidByTextAt_later rfl rfl tie noOwnUnsafe
theorem grantScriptUpto_row_tie : Rows.grantScriptUptoRow.laidByTextAt .later Tryd.pinned [.data, .funcs] true :=
  OpenClaim.laidByTextAt_later rfl rfl tie noOwnUnsafe
theorem grantApartUpto_row_tie : Rows.grantApartUptoRow.laidByTextAt .later Tryd.pinned [.data, .funcs] true :=
  OpenClaim.laidByTextAt_later rfl rfl tie noOwnUnsafe
theorem grantServesUpto_row_tie : Rows.grantServesUptoRow.laidByTextAt .later Tryd.pinned [.data, .funcs] true :=
  OpenClaim.laidByTextAt_later rfl rfl tie noOwnUnsafe
theorem grantReadersUpto_row_tie : Rows.grantReadersUptoRow.laidByTextAt .later Tryd.pinned [.data, .funcs] true :=
  OpenClaim.laidByTextAt_later rfl rfl tie noOwnUnsafe
theorem grantCancelsUpto_row_tie : Rows.grantCancelsUptoRow.laidByTextAt .later Tryd.pinned [.data, .funcs] true :=
  OpenClaim.laidByTextAt_later rfl rfl tie noOwnUnsafe
theorem grantReplaysUpto_row_tie : Rows.grantReplaysUptoRow.laidByTextAt .later Tryd.pinned [.data, .funcs] true :=
  OpenClaim.laidByTextAt_later rfl rfl tie noOwnUnsafe
end Go.Proofs.YtijjbkkcienfgaaDoor
