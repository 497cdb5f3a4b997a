/-
  DERIVED. GIVEN WITH THE SEED: THE PROGRAM's TIES (one call each: nine closed facts by the kernel) AND EACH ROW's TIE, after the 31st guide's Derived/Test/Toyas{Tie, Card}.lean. No idea stands in it: it is a product of the set-up. Laid BY PROGRAM, IN A SANDBOX (cutbox-door.mjs). By AI agents, Wed Nov 11 2026. No macro, syntax, notation, axiom, sorry.
-/
import Derived.Test.YtfjogcklhibboaaGreatDoorRows
import Derived.LaidByTextLater
import Derived.SevenTiedAt
import Derived.LaidSub
import Derived.LaidOnce
namespace Go.Proofs.YtfjogcklhibboaaGreatDoor
open Go
set_option maxRecDepth 100000
theorem seatTie1 : Tryz.prog.laidByTextLater [("shale/api.ErrField", Rows.laid_shale_api_ErrField), ("shale/api.ErrNumber", Rows.laid_shale_api_ErrNumber), ("shale/api.ErrZero", Rows.laid_shale_api_ErrZero), ("shale/api.ErrLong", Rows.laid_shale_api_ErrLong), ("shale/api.ErrCode", Rows.laid_shale_api_ErrCode), ("shale/api.ErrMany", Rows.laid_shale_api_ErrMany), ("shale/api.ErrRecord", Rows.laid_shale_api_ErrRecord), ("shale/api.ErrGeometry", Rows.laid_shale_api_ErrGeometry), ("shale/api.ErrDead", Rows.laid_shale_api_ErrDead), ("shale/api.ErrOrder", Rows.laid_shale_api_ErrOrder), ("shale/api.ErrFailed", Rows.laid_shale_api_ErrFailed), ("shale/api.ErrBad", Rows.laid_shale_api_ErrBad), ("shale/api.ErrPage", Rows.laid_shale_api_ErrPage), ("shale/api.ErrFull", Rows.laid_shale_api_ErrFull), ("shale/api.ErrGone", Rows.laid_shale_api_ErrGone), ("shale/api.ErrSize", Rows.laid_shale_api_ErrSize), ("shale/api.ErrReadOnly", Rows.laid_shale_api_ErrReadOnly), ("shale/api.ErrStep", Rows.laid_shale_api_ErrStep), ("shale/api.ErrMount", Rows.laid_shale_api_ErrMount)] [.sentinel, .sentinel, .sentinel, .sentinel, .sentinel, .sentinel, .sentinel, .sentinel, .sentinel, .sentinel, .sentinel, .sentinel, .sentinel, .sentinel, .sentinel, .sentinel, .sentinel, .sentinel, .sentinel] true :=
  Program.laidByTextLater_by_one 370 8 2 (by kernel_rfl) (by kernel_rfl) (by kernel_rfl) (by kernel_rfl) (by kernel_rfl) (by kernel_rfl) (fun _ _ => by kernel_rfl)
theorem noOwnUnsafe : Tryz.pinned.checked.prog.headLifts.contains "ownunsafe" = false := by kernel_rfl
theorem tie : Tryz.prog.laidByTextLater [("shale/api.ErrField", Rows.laid_shale_api_ErrField), ("shale/api.ErrNumber", Rows.laid_shale_api_ErrNumber), ("shale/api.ErrZero", Rows.laid_shale_api_ErrZero), ("shale/api.ErrLong", Rows.laid_shale_api_ErrLong), ("shale/api.ErrCode", Rows.laid_shale_api_ErrCode), ("shale/api.ErrMany", Rows.laid_shale_api_ErrMany)] [.sentinel, .sentinel, .sentinel, .sentinel, .sentinel, .sentinel] true :=
  Program.laidByTextLater.sub seatTie1 ["shale/api.ErrField", "shale/api.ErrNumber", "shale/api.ErrZero", "shale/api.ErrLong", "shale/api.ErrCode", "shale/api.ErrMany"] (by kernel_rfl) (by kernel_rfl)
theorem decodeSpare_row_tie : Rows.decodeSpareRow.laidByTextAt .later Tryz.pinned [.sentinel, .sentinel, .sentinel, .sentinel, .sentinel, .sentinel] true :=
  OpenClaim.laidByTextAt_later rfl rfl tie noOwnUnsafe
theorem decodeMends_row_tie : Rows.decodeMendsRow.laidByTextAt .later Tryz.pinned [.sentinel, .sentinel, .sentinel, .sentinel, .sentinel, .sentinel] true :=
  OpenClaim.laidByTextAt_later rfl rfl tie noOwnUnsafe
theorem decodeAll_row_tie : Rows.decodeAllRow.laidByTextAt .later Tryz.pinned [.sentinel, .sentinel, .sentinel, .sentinel, .sentinel, .sentinel] true :=
  OpenClaim.laidByTextAt_later rfl rfl tie noOwnUnsafe
theorem decodeNear_row_tie : Rows.decodeNearRow.laidByTextAt .later Tryz.pinned [.sentinel, .sentinel, .sentinel, .sentinel, .sentinel, .sentinel] true :=
  OpenClaim.laidByTextAt_later rfl rfl tie noOwnUnsafe
theorem decodeTwice_row_tie : Rows.decodeTwiceRow.laidByTextAt .later Tryz.pinned [.sentinel, .sentinel, .sentinel, .sentinel, .sentinel, .sentinel] true :=
  OpenClaim.laidByTextAt_later rfl rfl tie noOwnUnsafe
theorem tie2 : Tryz.prog.laidByTextLater [("shale/api.ErrField", Rows.laid_shale_api_ErrField), ("shale/api.ErrNumber", Rows.laid_shale_api_ErrNumber), ("shale/api.ErrZero", Rows.laid_shale_api_ErrZero), ("shale/api.ErrLong", Rows.laid_shale_api_ErrLong), ("shale/api.ErrCode", Rows.laid_shale_api_ErrCode), ("shale/api.ErrMany", Rows.laid_shale_api_ErrMany), ("shale/api.ErrRecord", Rows.laid_shale_api_ErrRecord), ("shale/api.ErrGeometry", Rows.laid_shale_api_ErrGeometry), ("shale/api.ErrDead", Rows.laid_shale_api_ErrDead), ("shale/api.ErrOrder", Rows.laid_shale_api_ErrOrder), ("shale/api.ErrFailed", Rows.laid_shale_api_ErrFailed), ("shale/api.ErrBad", Rows.laid_shale_api_ErrBad), ("shale/api.ErrPage", Rows.laid_shale_api_ErrPage), ("shale/api.ErrFull", Rows.laid_shale_api_ErrFull), ("shale/api.ErrGone", Rows.laid_shale_api_ErrGone), ("shale/api.ErrSize", Rows.laid_shale_api_ErrSize), ("shale/api.ErrReadOnly", Rows.laid_shale_api_ErrReadOnly), ("shale/api.ErrStep", Rows.laid_shale_api_ErrStep), ("shale/api.ErrMount", Rows.laid_shale_api_ErrMount)] [.sentinel, .sentinel, .sentinel, .sentinel, .sentinel, .sentinel, .sentinel, .sentinel, .sentinel, .sentinel, .sentinel, .sentinel, .sentinel, .sentinel, .sentinel, .sentinel, .sentinel, .sentinel, .sentinel] true :=
  Program.laidByTextLater.sub seatTie1 ["shale/api.ErrField", "shale/api.ErrNumber", "shale/api.ErrZero", "shale/api.ErrLong", "shale/api.ErrCode", "shale/api.ErrMany", "shale/api.ErrRecord", "shale/api.ErrGeometry", "shale/api.ErrDead", "shale/api.ErrOrder", "shale/api.ErrFailed", "shale/api.ErrBad", "shale/api.ErrPage", "shale/api.ErrFull", "shale/api.ErrGone", "shale/api.ErrSize", "shale/api.ErrReadOnly", "shale/api.ErrStep", "shale/api.ErrMount"] (by kernel_rfl) (by kernel_rfl)
theorem decodeSays_row_tie : Rows.decodeSaysRow.laidByTextAt .later Tryz.pinned [.sentinel, .sentinel, .sentinel, .sentinel, .sentinel, .sentinel, .sentinel, .sentinel, .sentinel, .sentinel, .sentinel, .sentinel, .sentinel, .sentinel, .sentinel, .sentinel, .sentinel, .sentinel, .sentinel] true :=
  OpenClaim.laidByTextAt_later rfl rfl tie2 noOwnUnsafe
theorem decodeSpareUpto_row_tie : Rows.decodeSpareUptoRow.laidByTextAt .later Tryz.pinned [.sentinel, .sentinel, .sentinel, .sentinel, .sentinel, .sentinel] true :=
  OpenClaim.laidByTextAt_later rfl rfl tie noOwnUnsafe
theorem decodeSaysUpto_row_tie : Rows.decodeSaysUptoRow.laidByTextAt .later Tryz.pinned [.sentinel, .sentinel, .sentinel, .sentinel, .sentinel, .sentinel, .sentinel, .sentinel, .sentinel, .sentinel, .sentinel, .sentinel, .sentinel, .sentinel, .sentinel, .sentinel, .sentinel, .sentinel, .sentinel] true :=
  OpenClaim.laidByTextAt_later rfl rfl tie2 noOwnUnsafe
theorem decodeMendsUpto_row_tie : Rows.decodeMendsUptoRow.laidByTextAt .later Tryz.pinned [.sentinel, .sentinel, .sentinel, .sentinel, .sentinel, .sentinel] true :=
  OpenClaim.laidByTextAt_later rfl rfl tie noOwnUnsafe
theorem decodeAllUpto_row_tie : Rows.decodeAllUptoRow.laidByTextAt .later Tryz.pinned [.sentinel, .sentinel, .sentinel, .sentinel, .sentinel, .sentinel] true :=
  OpenClaim.laidByTextAt_later rfl rfl tie noOwnUnsafe
theorem decodeNearUpto_row_tie : Rows.decodeNearUptoRow.laidByTextAt .later Tryz.pinned [.sentinel, .sentinel, .sentinel, .sentinel, .sentinel, .sentinel] true :=
  OpenClaim.laidByTextAt_later rfl rfl tie noOwnUnsafe
theorem decodeTwiceUpto_row_tie : Rows.decodeTwiceUptoRow.laidByTextAt .later Tryz.pinned [.sentinel, .sentinel, .sentinel, .sentinel, .sentinel, .sentinel] true :=
  OpenClaim.laidByTextAt_later rfl rfl tie noOwnUnsafe
end Go.Proofs.YtfjogcklhibboaaGreatDoor
