/-
  DERIVED. GIVEN WITH THE SEED: THE PROGRAM's TIES (one call each: nine closed facts by the kernel) AND EACH ROW's TIE, after the 31st guide's Derived/Test/Toyas{Tie, Card}.lean. No idea stands in it: it is a product of the set-up. Laid BY PROGRAM, IN A SANDBOX (cutbox-door.mjs). By AI agents, Wed Nov 11 2026. No macro, syntax, notation, axiom, sorry.
-/
import Derived.Test.YtclmmfkbkaldlaaDoorRows
import Derived.LaidByTextLater
import Derived.SevenTiedAt
import Derived.LaidSub
import Derived.LaidOnce
namespace Go.Proofs.YtclmmfkbkaldlaaDoor
open Go
set_option maxRecDepth 100000
theorem seatTie1 : Tryd.prog.laidByTextLater [("math/bits.deBruijn32tab", Rows.laid_math_bits_deBruijn32tab), ("pasodoble/api.ErrArg", Rows.laid_pasodoble_api_ErrArg), ("pasodoble/api.ErrNil", Rows.laid_pasodoble_api_ErrNil), ("pasodoble/api.ErrForm", Rows.laid_pasodoble_api_ErrForm), ("pasodoble/api.ErrLong", Rows.laid_pasodoble_api_ErrLong), ("pasodoble/api.ErrSum", Rows.laid_pasodoble_api_ErrSum), ("pasodoble/api.ErrFull", Rows.laid_pasodoble_api_ErrFull), ("pasodoble/api.ErrNone", Rows.laid_pasodoble_api_ErrNone), ("pasodoble/api.ErrState", Rows.laid_pasodoble_api_ErrState), ("pasodoble/api.ErrTwice", Rows.laid_pasodoble_api_ErrTwice), ("pasodoble/api.ErrName", Rows.laid_pasodoble_api_ErrName), ("pasodoble/api.ErrCycle", Rows.laid_pasodoble_api_ErrCycle), ("pasodoble/api.ErrStack", Rows.laid_pasodoble_api_ErrStack), ("pasodoble/api.ErrJump", Rows.laid_pasodoble_api_ErrJump), ("pasodoble/api.ErrOp", Rows.laid_pasodoble_api_ErrOp), ("pasodoble/api.ErrFuel", Rows.laid_pasodoble_api_ErrFuel), ("pasodoble/api.ErrRange", Rows.laid_pasodoble_api_ErrRange), ("pasodoble/api.ErrDead", Rows.laid_pasodoble_api_ErrDead), ("pasodoble/api.ErrWord", Rows.laid_pasodoble_api_ErrWord)] [.data, .sentinel, .sentinel, .sentinel, .sentinel, .sentinel, .sentinel, .sentinel, .sentinel, .sentinel, .sentinel, .sentinel, .sentinel, .sentinel, .sentinel, .sentinel, .sentinel, .sentinel, .sentinel] true :=
  Program.laidByTextLater_by_one 356 8 33 (by kernel_rfl) (by kernel_rfl) (by kernel_rfl) (by kernel_rfl) (by kernel_rfl) (by kernel_rfl) (fun _ _ => by kernel_rfl)
theorem noOwnUnsafe : Tryd.pinned.checked.prog.headLifts.contains "ownunsafe" = false := by kernel_rfl
theorem tie : Tryd.prog.laidByTextLater [("math/bits.deBruijn32tab", Rows.laid_math_bits_deBruijn32tab), ("pasodoble/api.ErrArg", Rows.laid_pasodoble_api_ErrArg), ("pasodoble/api.ErrNil", Rows.laid_pasodoble_api_ErrNil), ("pasodoble/api.ErrNone", Rows.laid_pasodoble_api_ErrNone)] [.data, .sentinel, .sentinel, .sentinel] true :=
  Program.laidByTextLater.sub seatTie1 ["math/bits.deBruijn32tab", "pasodoble/api.ErrArg", "pasodoble/api.ErrNil", "pasodoble/api.ErrNone"] (by kernel_rfl) (by kernel_rfl)
theorem atlasOnce_row_tie : Rows.atlasOnceRow.laidByTextAt .later Tryd.pinned [.data, .sentinel, .sentinel, .sentinel] true :=
  OpenClaim.laidByTextAt_later rfl rfl tie noOwnUnsafe
theorem atlasTurns_row_tie : Rows.atlasTurnsRow.laidByTextAt .later Tryd.pinned [.data, .sentinel, .sentinel, .sentinel] true :=
  OpenClaim.laidByTextAt_later rfl rfl tie noOwnUnsafe
theorem atlasWays_row_tie : Rows.atlasWaysRow.laidByTextAt .later Tryd.pinned [.data, .sentinel, .sentinel, .sentinel] true :=
  OpenClaim.laidByTextAt_later rfl rfl tie noOwnUnsafe
theorem atlasMatches_row_tie : Rows.atlasMatchesRow.laidByTextAt .later Tryd.pinned [.data, .sentinel, .sentinel, .sentinel] true :=
  OpenClaim.laidByTextAt_later rfl rfl tie noOwnUnsafe
theorem tie2 : Tryd.prog.laidByTextLater [("math/bits.deBruijn32tab", Rows.laid_math_bits_deBruijn32tab), ("pasodoble/api.ErrArg", Rows.laid_pasodoble_api_ErrArg), ("pasodoble/api.ErrNil", Rows.laid_pasodoble_api_ErrNil), ("pasodoble/api.ErrForm", Rows.laid_pasodoble_api_ErrForm), ("pasodoble/api.ErrLong", Rows.laid_pasodoble_api_ErrLong), ("pasodoble/api.ErrSum", Rows.laid_pasodoble_api_ErrSum), ("pasodoble/api.ErrFull", Rows.laid_pasodoble_api_ErrFull), ("pasodoble/api.ErrNone", Rows.laid_pasodoble_api_ErrNone), ("pasodoble/api.ErrState", Rows.laid_pasodoble_api_ErrState), ("pasodoble/api.ErrTwice", Rows.laid_pasodoble_api_ErrTwice), ("pasodoble/api.ErrName", Rows.laid_pasodoble_api_ErrName), ("pasodoble/api.ErrCycle", Rows.laid_pasodoble_api_ErrCycle), ("pasodoble/api.ErrStack", Rows.laid_pasodoble_api_ErrStack), ("pasodoble/api.ErrJump", Rows.laid_pasodoble_api_ErrJump), ("pasodoble/api.ErrOp", Rows.laid_pasodoble_api_ErrOp), ("pasodoble/api.ErrFuel", Rows.laid_pasodoble_api_ErrFuel), ("pasodoble/api.ErrRange", Rows.laid_pasodoble_api_ErrRange), ("pasodoble/api.ErrDead", Rows.laid_pasodoble_api_ErrDead), ("pasodoble/api.ErrWord", Rows.laid_pasodoble_api_ErrWord)] [.data, .sentinel, .sentinel, .sentinel, .sentinel, .sentinel, .sentinel, .sentinel, .sentinel, .sentinel, .sentinel, .sentinel, .sentinel, .sentinel, .sentinel, .sentinel, .sentinel, .sentinel, .sentinel] true :=
  Program.laidByTextLater.sub seatTie1 ["math/bits.deBruijn32tab", "pasodoble/api.ErrArg", "pasodoble/api.ErrNil", "pasodoble/api.ErrForm", "pasodoble/api.ErrLong", "pasodoble/api.ErrSum", "pasodoble/api.ErrFull", "pasodoble/api.ErrNone", "pasodoble/api.ErrState", "pasodoble/api.ErrTwice", "pasodoble/api.ErrName", "pasodoble/api.ErrCycle", "pasodoble/api.ErrStack", "pasodoble/api.ErrJump", "pasodoble/api.ErrOp", "pasodoble/api.ErrFuel", "pasodoble/api.ErrRange", "pasodoble/api.ErrDead", "pasodoble/api.ErrWord"] (by kernel_rfl) (by kernel_rfl)
theorem atlasExact_row_tie : Rows.atlasExactRow.laidByTextAt .later Tryd.pinned [.data, .sentinel, .sentinel, .sentinel, .sentinel, .sentinel, .sentinel, .sentinel, .sentinel, .sentinel, .sentinel, .sentinel, .sentinel, .sentinel, .sentinel, .sentinel, .sentinel, .sentinel, .sentinel] true :=
  OpenClaim.laidByTextAt_later rfl rfl tie2 noOwnUnsafe
theorem atlasOnceUpto_row_tie : Rows.atlasOnceUptoRow.laidByTextAt .later Tryd.pinned [.data, .sentinel, .sentinel, .sentinel] true :=
  OpenClaim.laidByTextAt_later rfl rfl tie noOwnUnsafe
theorem atlasTurnsUpto_row_tie : Rows.atlasTurnsUptoRow.laidByTextAt .later Tryd.pinned [.data, .sentinel, .sentinel, .sentinel] true :=
  OpenClaim.laidByTextAt_later rfl rfl tie noOwnUnsafe
theorem atlasWaysUpto_row_tie : Rows.atlasWaysUptoRow.laidByTextAt .later Tryd.pinned [.data, .sentinel, .sentinel, .sentinel] true :=
  OpenClaim.laidByTextAt_later rfl rfl tie noOwnUnsafe
theorem atlasMatchesUpto_row_tie : Rows.atlasMatchesUptoRow.laidByTextAt .later Tryd.pinned [.data, .sentinel, .sentinel, .sentinel] true :=
  OpenClaim.laidByTextAt_later rfl rfl tie noOwnUnsafe
theorem atlasExactUpto_row_tie : Rows.atlasExactUptoRow.laidByTextAt .later Tryd.pinned [.data, .sentinel, .sentinel, .sentinel, .sentinel, .sentinel, .sentinel, .sentinel, .sentinel, .sentinel, .sentinel, .sentinel, .sentinel, .sentinel, .sentinel, .sentinel, .sentinel, .sentinel, .sentinel] true :=
  OpenClaim.laidByTextAt_later rfl rfl tie2 noOwnUnsafe
end Go.Proofs.YtclmmfkbkaldlaaDoor
