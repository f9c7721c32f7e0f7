/-
  DERIVED. GIVEN WITH THE SEED: THE PROGRAM's TIES (one call each: nine closed facts by the kernel) AND EACH ROW's TIE, after the 31st guide's Derived/Test/Toyas{Tie, Card}.lean. No idea stands in it: it is a product of the set-up. Laid BY PROGRAM, IN A SANDBOX (cutbox-door.mjs). By AI agents, Wed Nov 11 2026. No macro, syntax, notation, axiom, sorry.
-/
import Derived.Test.YtjknjjcdgniodaaDoorRows
import Derived.LaidByTextLater
import Derived.SevenTiedAt
import Derived.LaidSub
import Derived.LaidOnce
namespace Go.Proofs.YtjknjjcdgniodaaDoor
open Go
set_option maxRecDepth 100000
theorem seatTie1 : Tryd.prog.laidByTextLater [("stockade/digest.turns", Rows.laid_stockade_digest_turns), ("stockade/api.ErrRange", Rows.laid_stockade_api_ErrRange), ("stockade/api.ErrText", Rows.laid_stockade_api_ErrText), ("stockade/api.ErrDepth", Rows.laid_stockade_api_ErrDepth), ("stockade/api.ErrName", Rows.laid_stockade_api_ErrName), ("stockade/api.ErrType", Rows.laid_stockade_api_ErrType), ("stockade/api.ErrLarge", Rows.laid_stockade_api_ErrLarge), ("stockade/api.ErrFull", Rows.laid_stockade_api_ErrFull), ("stockade/api.ErrNone", Rows.laid_stockade_api_ErrNone), ("stockade/api.ErrCode", Rows.laid_stockade_api_ErrCode), ("stockade/api.ErrState", Rows.laid_stockade_api_ErrState), ("stockade/api.ErrFrame", Rows.laid_stockade_api_ErrFrame), ("stockade/api.ErrMac", Rows.laid_stockade_api_ErrMac), ("stockade/api.ErrReplay", Rows.laid_stockade_api_ErrReplay), ("stockade/api.ErrArena", Rows.laid_stockade_api_ErrArena), ("stockade/api.ErrClock", Rows.laid_stockade_api_ErrClock), ("stockade/api.ErrQuota", Rows.laid_stockade_api_ErrQuota), ("stockade/api.ErrTenant", Rows.laid_stockade_api_ErrTenant)] [.data, .sentinel, .sentinel, .sentinel, .sentinel, .sentinel, .sentinel, .sentinel, .sentinel, .sentinel, .sentinel, .sentinel, .sentinel, .sentinel, .sentinel, .sentinel, .sentinel, .sentinel] true :=
  Program.laidByTextLater_by_one 337 8 65 (by kernel_rfl) (by kernel_rfl) (by kernel_rfl) (by kernel_rfl) (by kernel_rfl) (by kernel_rfl) (fun _ _ => by kernel_rfl)
theorem noOwnUnsafe : Tryd.pinned.checked.prog.headLifts.contains "ownunsafe" = false := by kernel_rfl
theorem tie : Tryd.prog.laidByTextLater [("stockade/digest.turns", Rows.laid_stockade_digest_turns)] [.data] true :=
  Program.laidByTextLater.sub seatTie1 ["stockade/digest.turns"] (by kernel_rfl) (by kernel_rfl)
theorem digestPads_row_tie : Rows.digestPadsRow.laidByTextAt .later Tryd.pinned [.data] true :=
  OpenClaim.laidByTextAt_later rfl rfl tie noOwnUnsafe
theorem digestPieces_row_tie : Rows.digestPiecesRow.laidByTextAt .later Tryd.pinned [.data] true :=
  OpenClaim.laidByTextAt_later rfl rfl tie noOwnUnsafe
theorem digestEquals_row_tie : Rows.digestEqualsRow.laidByTextAt .later Tryd.pinned [.data] true :=
  OpenClaim.laidByTextAt_later rfl rfl tie noOwnUnsafe
theorem digestTags_row_tie : Rows.digestTagsRow.laidByTextAt .later Tryd.pinned [.data] true :=
  OpenClaim.laidByTextAt_later rfl rfl tie noOwnUnsafe
theorem digestStates_row_tie : Rows.digestStatesRow.laidByTextAt .later Tryd.pinned [.data] true :=
  OpenClaim.laidByTextAt_later rfl rfl tie noOwnUnsafe
theorem digestOf_row_tie : Rows.digestOfRow.laidByTextAt .later Tryd.pinned [.data] true :=
  OpenClaim.laidByTextAt_later rfl rfl tie noOwnUnsafe
theorem tie2 : Tryd.prog.laidByTextLater [("stockade/digest.turns", Rows.laid_stockade_digest_turns), ("stockade/api.ErrRange", Rows.laid_stockade_api_ErrRange)] [.data, .sentinel] true :=
  Program.laidByTextLater.sub seatTie1 ["stockade/digest.turns", "stockade/api.ErrRange"] (by kernel_rfl) (by kernel_rfl)
theorem drawApart_row_tie : Rows.drawApartRow.laidByTextAt .later Tryd.pinned [.data, .sentinel] true :=
  OpenClaim.laidByTextAt_later rfl rfl tie2 noOwnUnsafe
theorem drawNumbers_row_tie : Rows.drawNumbersRow.laidByTextAt .later Tryd.pinned [.data, .sentinel] true :=
  OpenClaim.laidByTextAt_later rfl rfl tie2 noOwnUnsafe
theorem drawTicks_row_tie : Rows.drawTicksRow.laidByTextAt .later Tryd.pinned [.data, .sentinel] true :=
  OpenClaim.laidByTextAt_later rfl rfl tie2 noOwnUnsafe
theorem tie3 : Tryd.prog.laidByTextLater [("stockade/digest.turns", Rows.laid_stockade_digest_turns), ("stockade/api.ErrRange", Rows.laid_stockade_api_ErrRange), ("stockade/api.ErrText", Rows.laid_stockade_api_ErrText), ("stockade/api.ErrDepth", Rows.laid_stockade_api_ErrDepth), ("stockade/api.ErrName", Rows.laid_stockade_api_ErrName), ("stockade/api.ErrType", Rows.laid_stockade_api_ErrType), ("stockade/api.ErrLarge", Rows.laid_stockade_api_ErrLarge), ("stockade/api.ErrFull", Rows.laid_stockade_api_ErrFull), ("stockade/api.ErrNone", Rows.laid_stockade_api_ErrNone), ("stockade/api.ErrCode", Rows.laid_stockade_api_ErrCode), ("stockade/api.ErrState", Rows.laid_stockade_api_ErrState), ("stockade/api.ErrFrame", Rows.laid_stockade_api_ErrFrame), ("stockade/api.ErrMac", Rows.laid_stockade_api_ErrMac), ("stockade/api.ErrReplay", Rows.laid_stockade_api_ErrReplay), ("stockade/api.ErrArena", Rows.laid_stockade_api_ErrArena), ("stockade/api.ErrClock", Rows.laid_stockade_api_ErrClock), ("stockade/api.ErrQuota", Rows.laid_stockade_api_ErrQuota), ("stockade/api.ErrTenant", Rows.laid_stockade_api_ErrTenant)] [.data, .sentinel, .sentinel, .sentinel, .sentinel, .sentinel, .sentinel, .sentinel, .sentinel, .sentinel, .sentinel, .sentinel, .sentinel, .sentinel, .sentinel, .sentinel, .sentinel, .sentinel] true :=
  Program.laidByTextLater.sub seatTie1 ["stockade/digest.turns", "stockade/api.ErrRange", "stockade/api.ErrText", "stockade/api.ErrDepth", "stockade/api.ErrName", "stockade/api.ErrType", "stockade/api.ErrLarge", "stockade/api.ErrFull", "stockade/api.ErrNone", "stockade/api.ErrCode", "stockade/api.ErrState", "stockade/api.ErrFrame", "stockade/api.ErrMac", "stockade/api.ErrReplay", "stockade/api.ErrArena", "stockade/api.ErrClock", "stockade/api.ErrQuota", "stockade/api.ErrTenant"] (by kernel_rfl) (by kernel_rfl)
theorem drawRange_row_tie : Rows.drawRangeRow.laidByTextAt .later Tryd.pinned [.data, .sentinel, .sentinel, .sentinel, .sentinel, .sentinel, .sentinel, .sentinel, .sentinel, .sentinel, .sentinel, .sentinel, .sentinel, .sentinel, .sentinel, .sentinel, .sentinel, .sentinel] true :=
  OpenClaim.laidByTextAt_later rfl rfl tie3 noOwnUnsafe
theorem drawWords_row_tie : Rows.drawWordsRow.laidByTextAt .later Tryd.pinned [.data, .sentinel, .sentinel, .sentinel, .sentinel, .sentinel, .sentinel, .sentinel, .sentinel, .sentinel, .sentinel, .sentinel, .sentinel, .sentinel, .sentinel, .sentinel, .sentinel, .sentinel] true :=
  OpenClaim.laidByTextAt_later rfl rfl tie3 noOwnUnsafe
theorem drawPlays_row_tie : Rows.drawPlaysRow.laidByTextAt .later Tryd.pinned [.data, .sentinel, .sentinel, .sentinel, .sentinel, .sentinel, .sentinel, .sentinel, .sentinel, .sentinel, .sentinel, .sentinel, .sentinel, .sentinel, .sentinel, .sentinel, .sentinel, .sentinel] true :=
  OpenClaim.laidByTextAt_later rfl rfl tie3 noOwnUnsafe
theorem digestPadsUpto_row_tie : Rows.digestPadsUptoRow.laidByTextAt .later Tryd.pinned [.data] true :=
  OpenClaim.laidByTextAt_later rfl rfl tie noOwnUnsafe
theorem digestPiecesUpto_row_tie : Rows.digestPiecesUptoRow.laidByTextAt .later Tryd.pinned [.data] true :=
  OpenClaim.laidByTextAt_later rfl rfl tie noOwnUnsafe
theorem digestEqualsUpto_row_tie : Rows.digestEqualsUptoRow.laidByTextAt .later Tryd.pinned [.data] true :=
  OpenClaim.laidByTextAt_later rfl rfl tie noOwnUnsafe
theorem digestTagsUpto_row_tie : Rows.digestTagsUptoRow.laidByTextAt .later Tryd.pinned [.data] true :=
  OpenClaim.laidByTextAt_later rfl rfl tie noOwnUnsafe
theorem digestStatesUpto_row_tie : Rows.digestStatesUptoRow.laidByTextAt .later Tryd.pinned [.data] true :=
  OpenClaim.laidByTextAt_later rfl rfl tie noOwnUnsafe
theorem digestOfUpto_row_tie : Rows.digestOfUptoRow.laidByTextAt .later Tryd.pinned [.data] true :=
  OpenClaim.laidByTextAt_later rfl rfl tie noOwnUnsafe
theorem drawApartUpto_row_tie : Rows.drawApartUptoRow.laidByTextAt .later Tryd.pinned [.data, .sentinel] true :=
  OpenClaim.laidByTextAt_later rfl rfl tie2 noOwnUnsafe
theorem drawNumbersUpto_row_tie : Rows.drawNumbersUptoRow.laidByTextAt .later Tryd.pinned [.data, .sentinel] true :=
  OpenClaim.laidByTextAt_later rfl rfl tie2 noOwnUnsafe
theorem drawTicksUpto_row_tie : Rows.drawTicksUptoRow.laidByTextAt .later Tryd.pinned [.data, .sentinel] true :=
  OpenClaim.laidByTextAt_later rfl rfl tie2 noOwnUnsafe
theorem drawRangeUpto_row_tie : Rows.drawRangeUptoRow.laidByTextAt .later Tryd.pinned [.data, .sentinel, .sentinel, .sentinel, .sentinel, .sentinel, .sentinel, .sentinel, .sentinel, .sentinel, .sentinel, .sentinel, .sentinel, .sentinel, .sentinel, .sentinel, .sentinel, .sentinel] true :=
  OpenClaim.laidByTextAt_later rfl rfl tie3 noOwnUnsafe
theorem drawWordsUpto_row_tie : Rows.drawWordsUptoRow.laidByTextAt .later Tryd.pinned [.data, .sentinel, .sentinel, .sentinel, .sentinel, .sentinel, .sentinel, .sentinel, .sentinel, .sentinel, .sentinel, .sentinel, .sentinel, .sentinel, .sentinel, .sentinel, .sentinel, .sentinel] true :=
  OpenClaim.laidByTextAt_later rfl rfl tie3 noOwnUnsafe
theorem drawPlaysUpto_row_tie : Rows.drawPlaysUptoRow.laidByTextAt .later Tryd.pinned [.data, .sentinel, .sentinel, .sentinel, .sentinel, .sentinel, .sentinel, .sentinel, .sentinel, .sentinel, .sentinel, .sentinel, .sentinel, .sentinel, .sentinel, .sentinel, .sentinel, .sentinel] true :=
  OpenClaim.laidByTextAt_later rfl rfl tie3 noOwnUnsafe
end Go.Proofs.YtjknjjcdgniodaaDoor
