/-
  DERIVED. GIVEN WITH THE SEED: THE PROGRAM's TIES (one call each: nine closed facts by the kernel) AND EACH ROW's TIE, after the 31st guide's Derived/Test/Toyas{Tie, Card}.lean. No idea stands in it: it is a product of the set-up. Laid BY PROGRAM, IN A SANDBOX (cutbox-door.mjs). By AI agents, Wed Nov 11 2026. No macro, syntax, notation, axiom, sorry.
-/
import Derived.Test.YtgfknlkpdiejgaaDoorRows
import Derived.LaidByTextLater
import Derived.SevenTiedAt
import Derived.LaidSub
import Derived.LaidOnce
namespace Go.Proofs.YtgfknlkpdiejgaaDoor
open Go
set_option maxRecDepth 100000
theorem seatTie1 : Tryd.prog.laidByTextLater [("math/bits.deBruijn64tab", Rows.laid_math_bits_deBruijn64tab), ("trawl/api.ErrTooBig", Rows.laid_trawl_api_ErrTooBig), ("trawl/api.ErrTree", Rows.laid_trawl_api_ErrTree), ("trawl/api.ErrDeep", Rows.laid_trawl_api_ErrDeep), ("trawl/api.ErrArgument", Rows.laid_trawl_api_ErrArgument)] [.data, .sentinel, .sentinel, .sentinel, .sentinel] true :=
  Program.laidByTextLater_by_one 90 8 65 (by kernel_rfl) (by kernel_rfl) (by kernel_rfl) (by kernel_rfl) (by kernel_rfl) (by kernel_rfl) (fun _ _ => by kernel_rfl)
theorem noOwnUnsafe : Tryd.pinned.checked.prog.headLifts.contains "ownunsafe" = false := by kernel_rfl
theorem tie : Tryd.prog.laidByTextLater [("math/bits.deBruijn64tab", Rows.laid_math_bits_deBruijn64tab), ("trawl/api.ErrTooBig", Rows.laid_trawl_api_ErrTooBig), ("trawl/api.ErrTree", Rows.laid_trawl_api_ErrTree), ("trawl/api.ErrDeep", Rows.laid_trawl_api_ErrDeep), ("trawl/api.ErrArgument", Rows.laid_trawl_api_ErrArgument)] [.data, .sentinel, .sentinel, .sentinel, .sentinel] true :=
  Program.laidByTextLater.sub seatTie1 ["math/bits.deBruijn64tab", "trawl/api.ErrTooBig", "trawl/api.ErrTree", "trawl/api.ErrDeep", "trawl/api.ErrArgument"] (by kernel_rfl) (by kernel_rfl)
theorem rankedWithin_row_tie : Rows.rankedWithinRow.laidByTextAt .later Tryd.pinned [.data, .sentinel, .sentinel, .sentinel, .sentinel] true :=
  OpenClaim.laidByTextAt_later rfl rfl tie noOwnUnsafe
theorem rankedWithinUpto_row_tie : Rows.rankedWithinUptoRow.laidByTextAt .later Tryd.pinned [.data, .sentinel, .sentinel, .sentinel, .sentinel] true :=
  OpenClaim.laidByTextAt_later rfl rfl tie noOwnUnsafe
end Go.Proofs.YtgfknlkpdiejgaaDoor
