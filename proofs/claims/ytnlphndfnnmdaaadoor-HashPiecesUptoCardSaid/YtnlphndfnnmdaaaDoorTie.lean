/-
  DERIVED. GIVEN WITH THE SEED: THE PROGRAM's TIES (one call each: nine closed facts by the kernel) AND EACH ROW's TIE, after the 31st guide's Derived/Test/Toyas{Tie, Card}.lean. No idea stands in it: it is a product of the set-up. Laid BY PROGRAM, IN A SANDBOX (cutbox-door.mjs). By AI agents, Wed Nov 11 2026. No macro, syntax, notation, axiom, sorry.
-/
import Derived.Test.YtnlphndfnnmdaaaDoorRows
import Derived.LaidByTextLater
import Derived.SevenTiedAt
import Derived.LaidSub
import Derived.LaidOnce
namespace Go.Proofs.YtnlphndfnnmdaaaDoor
open Go
set_option maxRecDepth 100000
theorem seatTie1 : Tryd.prog.laidByTextLater [("covey/hash.short", Rows.laid_covey_hash_short), ("covey/hash.long", Rows.laid_covey_hash_long), ("covey/hash.shortBegin", Rows.laid_covey_hash_shortBegin), ("covey/hash.longBegin", Rows.laid_covey_hash_longBegin)] [.widerDeep, .widerDeep, .data, .data] true :=
  Program.laidByTextLater_by_one 29 8 81 (by kernel_rfl) (by kernel_rfl) (by kernel_rfl) (by kernel_rfl) (by kernel_rfl) (by kernel_rfl) (fun _ _ => by kernel_rfl)
theorem noOwnUnsafe : Tryd.pinned.checked.prog.headLifts.contains "ownunsafe" = false := by kernel_rfl
theorem tie : Tryd.prog.laidByTextLater [("covey/hash.short", Rows.laid_covey_hash_short), ("covey/hash.long", Rows.laid_covey_hash_long), ("covey/hash.shortBegin", Rows.laid_covey_hash_shortBegin), ("covey/hash.longBegin", Rows.laid_covey_hash_longBegin)] [.widerDeep, .widerDeep, .data, .data] true :=
  Program.laidByTextLater.sub seatTie1 ["covey/hash.short", "covey/hash.long", "covey/hash.shortBegin", "covey/hash.longBegin"] (by kernel_rfl) (by kernel_rfl)
theorem hashSums_row_tie : Rows.hashSumsRow.laidByTextAt .later Tryd.pinned [.widerDeep, .widerDeep, .data, .data] true :=
  OpenClaim.laidByTextAt_later rfl rfl tie noOwnUnsafe
theorem hashPieces_row_tie : Rows.hashPiecesRow.laidByTextAt .later Tryd.pinned [.widerDeep, .widerDeep, .data, .data] true :=
  OpenClaim.laidByTextAt_later rfl rfl tie noOwnUnsafe
theorem hashCuts_row_tie : Rows.hashCutsRow.laidByTextAt .later Tryd.pinned [.widerDeep, .widerDeep, .data, .data] true :=
  OpenClaim.laidByTextAt_later rfl rfl tie noOwnUnsafe
theorem hashSumsUpto_row_tie : Rows.hashSumsUptoRow.laidByTextAt .later Tryd.pinned [.widerDeep, .widerDeep, .data, .data] true :=
  OpenClaim.laidByTextAt_later rfl rfl tie noOwnUnsafe
theorem hashPiecesUpto_row_tie : Rows.hashPiecesUptoRow.laidByTextAt .later Tryd.pinned [.widerDeep, .widerDeep, .data, .data] true :=
  OpenClaim.laidByTextAt_later rfl rfl tie noOwnUnsafe
theorem hashCutsUpto_row_tie : Rows.hashCutsUptoRow.laidByTextAt .later Tryd.pinned [.widerDeep, .widerDeep, .data, .data] true :=
  OpenClaim.laidByTextAt_later rfl rfl tie noOwnUnsafe
end Go.Proofs.YtnlphndfnnmdaaaDoor
