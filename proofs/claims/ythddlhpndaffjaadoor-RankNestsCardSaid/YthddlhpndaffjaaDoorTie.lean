/-
  DERIVED. GIVEN WITH THE SEED: THE PROGRAM's TIES (one call each: nine closed facts by the kernel) AND EACH ROW's TIE, after the 31st guide's Derived/Test/Toyas{Tie, Card}.lean. No idea stands in it: it is a product of the set-up. Laid BY PROGRAM, IN A SANDBOX (cutbox-door.mjs). By AI agents, Wed Nov 11 2026. No macro, syntax, notation, axiom, sorry.
-/
import Derived.Test.YthddlhpndaffjaaDoorRows
import Derived.LaidByTextLater
import Derived.SevenTiedAt
import Derived.LaidSub
import Derived.LaidOnce
namespace Go.Proofs.YthddlhpndaffjaaDoor
open Go
set_option maxRecDepth 100000
theorem seatTie1 : Tryd.prog.laidByTextLater [("trawl/api.ErrBracket", Rows.laid_trawl_api_ErrBracket), ("trawl/api.ErrParen", Rows.laid_trawl_api_ErrParen), ("trawl/api.ErrBrace", Rows.laid_trawl_api_ErrBrace), ("trawl/api.ErrCount", Rows.laid_trawl_api_ErrCount), ("trawl/api.ErrRange", Rows.laid_trawl_api_ErrRange), ("trawl/api.ErrClass", Rows.laid_trawl_api_ErrClass), ("trawl/api.ErrCollate", Rows.laid_trawl_api_ErrCollate), ("trawl/api.ErrEscape", Rows.laid_trawl_api_ErrEscape), ("trawl/api.ErrRepeat", Rows.laid_trawl_api_ErrRepeat), ("trawl/api.ErrTooBig", Rows.laid_trawl_api_ErrTooBig), ("trawl/api.ErrNest", Rows.laid_trawl_api_ErrNest), ("trawl/api.ErrLong", Rows.laid_trawl_api_ErrLong), ("trawl/api.ErrTree", Rows.laid_trawl_api_ErrTree), ("trawl/api.ErrDeep", Rows.laid_trawl_api_ErrDeep), ("trawl/api.ErrArgument", Rows.laid_trawl_api_ErrArgument), ("trawl/api.ErrNoMatch", Rows.laid_trawl_api_ErrNoMatch), ("trawl/api.ErrImage", Rows.laid_trawl_api_ErrImage), ("trawl/api.ErrMany", Rows.laid_trawl_api_ErrMany), ("trawl/api.ErrOption", Rows.laid_trawl_api_ErrOption), ("trawl/api.ErrCommand", Rows.laid_trawl_api_ErrCommand), ("trawl/api.ErrClosed", Rows.laid_trawl_api_ErrClosed)] [.sentinel, .sentinel, .sentinel, .sentinel, .sentinel, .sentinel, .sentinel, .sentinel, .sentinel, .sentinel, .sentinel, .sentinel, .sentinel, .sentinel, .sentinel, .sentinel, .sentinel, .sentinel, .sentinel, .sentinel, .sentinel] true :=
  Program.laidByTextLater_by_one 408 8 2 (by kernel_rfl) (by kernel_rfl) (by kernel_rfl) (by kernel_rfl) (by kernel_rfl) (by kernel_rfl) (fun _ _ => by kernel_rfl)
theorem noOwnUnsafe : Tryd.pinned.checked.prog.headLifts.contains "ownunsafe" = false := by kernel_rfl
theorem tie : Tryd.prog.laidByTextLater [("trawl/api.ErrTooBig", Rows.laid_trawl_api_ErrTooBig), ("trawl/api.ErrTree", Rows.laid_trawl_api_ErrTree), ("trawl/api.ErrDeep", Rows.laid_trawl_api_ErrDeep)] [.sentinel, .sentinel, .sentinel] true :=
  Program.laidByTextLater.sub seatTie1 ["trawl/api.ErrTooBig", "trawl/api.ErrTree", "trawl/api.ErrDeep"] (by kernel_rfl) (by kernel_rfl)
theorem expandOwns_row_tie : Rows.expandOwnsRow.laidByTextAt .later Tryd.pinned [.sentinel, .sentinel, .sentinel] true :=
  OpenClaim.laidByTextAt_later rfl rfl tie noOwnUnsafe
theorem rankChecks_row_tie : Rows.rankChecksRow.laidByTextAt .later Tryd.pinned [.sentinel, .sentinel, .sentinel] true :=
  OpenClaim.laidByTextAt_later rfl rfl tie noOwnUnsafe
theorem rankCompares_row_tie : Rows.rankComparesRow.laidByTextAt .later Tryd.pinned [.sentinel, .sentinel, .sentinel] true :=
  OpenClaim.laidByTextAt_later rfl rfl tie noOwnUnsafe
theorem rankOrders_row_tie : Rows.rankOrdersRow.laidByTextAt .later Tryd.pinned [.sentinel, .sentinel, .sentinel] true :=
  OpenClaim.laidByTextAt_later rfl rfl tie noOwnUnsafe
theorem rankNests_row_tie : Rows.rankNestsRow.laidByTextAt .later Tryd.pinned [.sentinel, .sentinel, .sentinel] true :=
  OpenClaim.laidByTextAt_later rfl rfl tie noOwnUnsafe
theorem tie2 : Tryd.prog.laidByTextLater [("trawl/api.ErrBracket", Rows.laid_trawl_api_ErrBracket), ("trawl/api.ErrParen", Rows.laid_trawl_api_ErrParen), ("trawl/api.ErrBrace", Rows.laid_trawl_api_ErrBrace), ("trawl/api.ErrCount", Rows.laid_trawl_api_ErrCount), ("trawl/api.ErrRange", Rows.laid_trawl_api_ErrRange), ("trawl/api.ErrClass", Rows.laid_trawl_api_ErrClass), ("trawl/api.ErrCollate", Rows.laid_trawl_api_ErrCollate), ("trawl/api.ErrEscape", Rows.laid_trawl_api_ErrEscape), ("trawl/api.ErrRepeat", Rows.laid_trawl_api_ErrRepeat), ("trawl/api.ErrTooBig", Rows.laid_trawl_api_ErrTooBig), ("trawl/api.ErrNest", Rows.laid_trawl_api_ErrNest), ("trawl/api.ErrLong", Rows.laid_trawl_api_ErrLong), ("trawl/api.ErrTree", Rows.laid_trawl_api_ErrTree), ("trawl/api.ErrDeep", Rows.laid_trawl_api_ErrDeep), ("trawl/api.ErrArgument", Rows.laid_trawl_api_ErrArgument), ("trawl/api.ErrNoMatch", Rows.laid_trawl_api_ErrNoMatch), ("trawl/api.ErrImage", Rows.laid_trawl_api_ErrImage), ("trawl/api.ErrMany", Rows.laid_trawl_api_ErrMany), ("trawl/api.ErrOption", Rows.laid_trawl_api_ErrOption), ("trawl/api.ErrCommand", Rows.laid_trawl_api_ErrCommand), ("trawl/api.ErrClosed", Rows.laid_trawl_api_ErrClosed)] [.sentinel, .sentinel, .sentinel, .sentinel, .sentinel, .sentinel, .sentinel, .sentinel, .sentinel, .sentinel, .sentinel, .sentinel, .sentinel, .sentinel, .sentinel, .sentinel, .sentinel, .sentinel, .sentinel, .sentinel, .sentinel] true :=
  Program.laidByTextLater.sub seatTie1 ["trawl/api.ErrBracket", "trawl/api.ErrParen", "trawl/api.ErrBrace", "trawl/api.ErrCount", "trawl/api.ErrRange", "trawl/api.ErrClass", "trawl/api.ErrCollate", "trawl/api.ErrEscape", "trawl/api.ErrRepeat", "trawl/api.ErrTooBig", "trawl/api.ErrNest", "trawl/api.ErrLong", "trawl/api.ErrTree", "trawl/api.ErrDeep", "trawl/api.ErrArgument", "trawl/api.ErrNoMatch", "trawl/api.ErrImage", "trawl/api.ErrMany", "trawl/api.ErrOption", "trawl/api.ErrCommand", "trawl/api.ErrClosed"] (by kernel_rfl) (by kernel_rfl)
theorem expandMakes_row_tie : Rows.expandMakesRow.laidByTextAt .later Tryd.pinned [.sentinel, .sentinel, .sentinel, .sentinel, .sentinel, .sentinel, .sentinel, .sentinel, .sentinel, .sentinel, .sentinel, .sentinel, .sentinel, .sentinel, .sentinel, .sentinel, .sentinel, .sentinel, .sentinel, .sentinel, .sentinel] true :=
  OpenClaim.laidByTextAt_later rfl rfl tie2 noOwnUnsafe
theorem imageEncodes_row_tie : Rows.imageEncodesRow.laidByTextAt .later Tryd.pinned [.sentinel, .sentinel, .sentinel, .sentinel, .sentinel, .sentinel, .sentinel, .sentinel, .sentinel, .sentinel, .sentinel, .sentinel, .sentinel, .sentinel, .sentinel, .sentinel, .sentinel, .sentinel, .sentinel, .sentinel, .sentinel] true :=
  OpenClaim.laidByTextAt_later rfl rfl tie2 noOwnUnsafe
theorem imageDecodes_row_tie : Rows.imageDecodesRow.laidByTextAt .later Tryd.pinned [.sentinel, .sentinel, .sentinel, .sentinel, .sentinel, .sentinel, .sentinel, .sentinel, .sentinel, .sentinel, .sentinel, .sentinel, .sentinel, .sentinel, .sentinel, .sentinel, .sentinel, .sentinel, .sentinel, .sentinel, .sentinel] true :=
  OpenClaim.laidByTextAt_later rfl rfl tie2 noOwnUnsafe
theorem imageReads_row_tie : Rows.imageReadsRow.laidByTextAt .later Tryd.pinned [.sentinel, .sentinel, .sentinel, .sentinel, .sentinel, .sentinel, .sentinel, .sentinel, .sentinel, .sentinel, .sentinel, .sentinel, .sentinel, .sentinel, .sentinel, .sentinel, .sentinel, .sentinel, .sentinel, .sentinel, .sentinel] true :=
  OpenClaim.laidByTextAt_later rfl rfl tie2 noOwnUnsafe
theorem expandSizes_row_tie : Rows.expandSizesRow.laidByTextAt .later Tryd.pinned [.sentinel, .sentinel, .sentinel, .sentinel, .sentinel, .sentinel, .sentinel, .sentinel, .sentinel, .sentinel, .sentinel, .sentinel, .sentinel, .sentinel, .sentinel, .sentinel, .sentinel, .sentinel, .sentinel, .sentinel, .sentinel] true :=
  OpenClaim.laidByTextAt_later rfl rfl tie2 noOwnUnsafe
theorem imageBack_row_tie : Rows.imageBackRow.laidByTextAt .later Tryd.pinned [.sentinel, .sentinel, .sentinel, .sentinel, .sentinel, .sentinel, .sentinel, .sentinel, .sentinel, .sentinel, .sentinel, .sentinel, .sentinel, .sentinel, .sentinel, .sentinel, .sentinel, .sentinel, .sentinel, .sentinel, .sentinel] true :=
  OpenClaim.laidByTextAt_later rfl rfl tie2 noOwnUnsafe
theorem expandOwnsUpto_row_tie : Rows.expandOwnsUptoRow.laidByTextAt .later Tryd.pinned [.sentinel, .sentinel, .sentinel] true :=
  OpenClaim.laidByTextAt_later rfl rfl tie noOwnUnsafe
theorem expandMakesUpto_row_tie : Rows.expandMakesUptoRow.laidByTextAt .later Tryd.pinned [.sentinel, .sentinel, .sentinel, .sentinel, .sentinel, .sentinel, .sentinel, .sentinel, .sentinel, .sentinel, .sentinel, .sentinel, .sentinel, .sentinel, .sentinel, .sentinel, .sentinel, .sentinel, .sentinel, .sentinel, .sentinel] true :=
  OpenClaim.laidByTextAt_later rfl rfl tie2 noOwnUnsafe
theorem imageEncodesUpto_row_tie : Rows.imageEncodesUptoRow.laidByTextAt .later Tryd.pinned [.sentinel, .sentinel, .sentinel, .sentinel, .sentinel, .sentinel, .sentinel, .sentinel, .sentinel, .sentinel, .sentinel, .sentinel, .sentinel, .sentinel, .sentinel, .sentinel, .sentinel, .sentinel, .sentinel, .sentinel, .sentinel] true :=
  OpenClaim.laidByTextAt_later rfl rfl tie2 noOwnUnsafe
theorem imageDecodesUpto_row_tie : Rows.imageDecodesUptoRow.laidByTextAt .later Tryd.pinned [.sentinel, .sentinel, .sentinel, .sentinel, .sentinel, .sentinel, .sentinel, .sentinel, .sentinel, .sentinel, .sentinel, .sentinel, .sentinel, .sentinel, .sentinel, .sentinel, .sentinel, .sentinel, .sentinel, .sentinel, .sentinel] true :=
  OpenClaim.laidByTextAt_later rfl rfl tie2 noOwnUnsafe
theorem imageReadsUpto_row_tie : Rows.imageReadsUptoRow.laidByTextAt .later Tryd.pinned [.sentinel, .sentinel, .sentinel, .sentinel, .sentinel, .sentinel, .sentinel, .sentinel, .sentinel, .sentinel, .sentinel, .sentinel, .sentinel, .sentinel, .sentinel, .sentinel, .sentinel, .sentinel, .sentinel, .sentinel, .sentinel] true :=
  OpenClaim.laidByTextAt_later rfl rfl tie2 noOwnUnsafe
theorem expandSizesUpto_row_tie : Rows.expandSizesUptoRow.laidByTextAt .later Tryd.pinned [.sentinel, .sentinel, .sentinel, .sentinel, .sentinel, .sentinel, .sentinel, .sentinel, .sentinel, .sentinel, .sentinel, .sentinel, .sentinel, .sentinel, .sentinel, .sentinel, .sentinel, .sentinel, .sentinel, .sentinel, .sentinel] true :=
  OpenClaim.laidByTextAt_later rfl rfl tie2 noOwnUnsafe
theorem imageBackUpto_row_tie : Rows.imageBackUptoRow.laidByTextAt .later Tryd.pinned [.sentinel, .sentinel, .sentinel, .sentinel, .sentinel, .sentinel, .sentinel, .sentinel, .sentinel, .sentinel, .sentinel, .sentinel, .sentinel, .sentinel, .sentinel, .sentinel, .sentinel, .sentinel, .sentinel, .sentinel, .sentinel] true :=
  OpenClaim.laidByTextAt_later rfl rfl tie2 noOwnUnsafe
theorem rankChecksUpto_row_tie : Rows.rankChecksUptoRow.laidByTextAt .later Tryd.pinned [.sentinel, .sentinel, .sentinel] true :=
  OpenClaim.laidByTextAt_later rfl rfl tie noOwnUnsafe
theorem rankComparesUpto_row_tie : Rows.rankComparesUptoRow.laidByTextAt .later Tryd.pinned [.sentinel, .sentinel, .sentinel] true :=
  OpenClaim.laidByTextAt_later rfl rfl tie noOwnUnsafe
theorem rankOrdersUpto_row_tie : Rows.rankOrdersUptoRow.laidByTextAt .later Tryd.pinned [.sentinel, .sentinel, .sentinel] true :=
  OpenClaim.laidByTextAt_later rfl rfl tie noOwnUnsafe
theorem rankNestsUpto_row_tie : Rows.rankNestsUptoRow.laidByTextAt .later Tryd.pinned [.sentinel, .sentinel, .sentinel] true :=
  OpenClaim.laidByTextAt_later rfl rfl tie noOwnUnsafe
end Go.Proofs.YthddlhpndaffjaaDoor
