/-
  DERIVED. GIVEN WITH THE SEED: THE PROGRAM's TIES (one call each: nine closed facts by the kernel) AND EACH ROW's TIE, after the 31st guide's Derived/Test/Toyas{Tie, Card}.lean. No idea stands in it: it is a product of the set-up. Laid BY PROGRAM, IN A SANDBOX (cutbox-door.mjs). By AI agents, Wed Nov 11 2026. No macro, syntax, notation, axiom, sorry.
-/
import Derived.Test.YtkcgbdoplhgbmaaDoorRows
import Derived.LaidByTextLater
import Derived.SevenTiedAt
import Derived.LaidSub
import Derived.LaidOnce
namespace Go.Proofs.YtkcgbdoplhgbmaaDoor
open Go
set_option maxRecDepth 100000
theorem seatTie1 : Tryd.prog.laidByTextLater [("math/bits.deBruijn32tab", Rows.laid_math_bits_deBruijn32tab), ("math/bits.deBruijn64tab", Rows.laid_math_bits_deBruijn64tab), ("internal/strconv.uint64pow10", Rows.laid_internal_strconv_uint64pow10), ("unicode/utf8.acceptRanges", Rows.laid_unicode_utf8_acceptRanges), ("errors.errorType", Rows.laid_errors_errorType), ("trawl/api.ErrBracket", Rows.laid_trawl_api_ErrBracket), ("trawl/api.ErrParen", Rows.laid_trawl_api_ErrParen), ("trawl/api.ErrBrace", Rows.laid_trawl_api_ErrBrace), ("trawl/api.ErrCount", Rows.laid_trawl_api_ErrCount), ("trawl/api.ErrRange", Rows.laid_trawl_api_ErrRange), ("trawl/api.ErrClass", Rows.laid_trawl_api_ErrClass), ("trawl/api.ErrCollate", Rows.laid_trawl_api_ErrCollate), ("trawl/api.ErrEscape", Rows.laid_trawl_api_ErrEscape), ("trawl/api.ErrRepeat", Rows.laid_trawl_api_ErrRepeat), ("trawl/api.ErrTooBig", Rows.laid_trawl_api_ErrTooBig), ("trawl/api.ErrNest", Rows.laid_trawl_api_ErrNest), ("trawl/api.ErrLong", Rows.laid_trawl_api_ErrLong), ("trawl/api.ErrTree", Rows.laid_trawl_api_ErrTree), ("trawl/api.ErrDeep", Rows.laid_trawl_api_ErrDeep), ("trawl/api.ErrArgument", Rows.laid_trawl_api_ErrArgument), ("trawl/api.ErrNoMatch", Rows.laid_trawl_api_ErrNoMatch), ("trawl/api.ErrImage", Rows.laid_trawl_api_ErrImage), ("trawl/api.ErrMany", Rows.laid_trawl_api_ErrMany), ("trawl/api.ErrOption", Rows.laid_trawl_api_ErrOption), ("trawl/api.ErrCommand", Rows.laid_trawl_api_ErrCommand), ("trawl/api.ErrClosed", Rows.laid_trawl_api_ErrClosed)] [.data, .data, .data, .data, .handle, .sentinel, .sentinel, .sentinel, .sentinel, .sentinel, .sentinel, .sentinel, .sentinel, .sentinel, .sentinel, .sentinel, .sentinel, .sentinel, .sentinel, .sentinel, .sentinel, .sentinel, .sentinel, .sentinel, .sentinel, .sentinel] true :=
  Program.laidByTextLater_by_one 440 8 65 (by kernel_rfl) (by kernel_rfl) (by kernel_rfl) (by kernel_rfl) (by kernel_rfl) (by kernel_rfl) (fun _ _ => by kernel_rfl)
theorem pin_laid_unicode_utf8_first : Tryd.pinned.checked.prog.pinnedFits "unicode/utf8.first" = true := by kernel_rfl
theorem noOwnUnsafe : Tryd.pinned.checked.prog.headLifts.contains "ownunsafe" = false := by kernel_rfl
theorem tie : Tryd.prog.laidByTextLater [("trawl/api.ErrBracket", Rows.laid_trawl_api_ErrBracket), ("trawl/api.ErrParen", Rows.laid_trawl_api_ErrParen), ("trawl/api.ErrBrace", Rows.laid_trawl_api_ErrBrace), ("trawl/api.ErrCount", Rows.laid_trawl_api_ErrCount), ("trawl/api.ErrRange", Rows.laid_trawl_api_ErrRange), ("trawl/api.ErrClass", Rows.laid_trawl_api_ErrClass), ("trawl/api.ErrCollate", Rows.laid_trawl_api_ErrCollate), ("trawl/api.ErrEscape", Rows.laid_trawl_api_ErrEscape), ("trawl/api.ErrRepeat", Rows.laid_trawl_api_ErrRepeat), ("trawl/api.ErrTooBig", Rows.laid_trawl_api_ErrTooBig), ("trawl/api.ErrNest", Rows.laid_trawl_api_ErrNest), ("trawl/api.ErrLong", Rows.laid_trawl_api_ErrLong), ("trawl/api.ErrTree", Rows.laid_trawl_api_ErrTree), ("trawl/api.ErrDeep", Rows.laid_trawl_api_ErrDeep), ("trawl/api.ErrArgument", Rows.laid_trawl_api_ErrArgument), ("trawl/api.ErrNoMatch", Rows.laid_trawl_api_ErrNoMatch), ("trawl/api.ErrImage", Rows.laid_trawl_api_ErrImage), ("trawl/api.ErrMany", Rows.laid_trawl_api_ErrMany), ("trawl/api.ErrOption", Rows.laid_trawl_api_ErrOption), ("trawl/api.ErrCommand", Rows.laid_trawl_api_ErrCommand), ("trawl/api.ErrClosed", Rows.laid_trawl_api_ErrClosed)] [.sentinel, .sentinel, .sentinel, .sentinel, .sentinel, .sentinel, .sentinel, .sentinel, .sentinel, .sentinel, .sentinel, .sentinel, .sentinel, .sentinel, .sentinel, .sentinel, .sentinel, .sentinel, .sentinel, .sentinel, .sentinel] true :=
  Program.laidByTextLater.sub seatTie1 ["trawl/api.ErrBracket", "trawl/api.ErrParen", "trawl/api.ErrBrace", "trawl/api.ErrCount", "trawl/api.ErrRange", "trawl/api.ErrClass", "trawl/api.ErrCollate", "trawl/api.ErrEscape", "trawl/api.ErrRepeat", "trawl/api.ErrTooBig", "trawl/api.ErrNest", "trawl/api.ErrLong", "trawl/api.ErrTree", "trawl/api.ErrDeep", "trawl/api.ErrArgument", "trawl/api.ErrNoMatch", "trawl/api.ErrImage", "trawl/api.ErrMany", "trawl/api.ErrOption", "trawl/api.ErrCommand", "trawl/api.ErrClosed"] (by kernel_rfl) (by kernel_rfl)
theorem normalMakes_row_tie : Rows.normalMakesRow.laidByTextAt .later Tryd.pinned [.sentinel, .sentinel, .sentinel, .sentinel, .sentinel, .sentinel, .sentinel, .sentinel, .sentinel, .sentinel, .sentinel, .sentinel, .sentinel, .sentinel, .sentinel, .sentinel, .sentinel, .sentinel, .sentinel, .sentinel, .sentinel] true :=
  OpenClaim.laidByTextAt_later rfl rfl tie noOwnUnsafe
theorem normalLess_row_tie : Rows.normalLessRow.laidByTextAt .later Tryd.pinned [.sentinel, .sentinel, .sentinel, .sentinel, .sentinel, .sentinel, .sentinel, .sentinel, .sentinel, .sentinel, .sentinel, .sentinel, .sentinel, .sentinel, .sentinel, .sentinel, .sentinel, .sentinel, .sentinel, .sentinel, .sentinel] true :=
  OpenClaim.laidByTextAt_later rfl rfl tie noOwnUnsafe
theorem fits2 : Tryd.pinned.checked.prog.listedFits [("unicode/utf8.acceptRanges", Rows.laid_unicode_utf8_acceptRanges), ("errors.errorType", Rows.laid_errors_errorType), ("trawl/api.ErrBracket", Rows.laid_trawl_api_ErrBracket), ("trawl/api.ErrParen", Rows.laid_trawl_api_ErrParen), ("trawl/api.ErrBrace", Rows.laid_trawl_api_ErrBrace), ("trawl/api.ErrCount", Rows.laid_trawl_api_ErrCount), ("trawl/api.ErrRange", Rows.laid_trawl_api_ErrRange), ("trawl/api.ErrClass", Rows.laid_trawl_api_ErrClass), ("trawl/api.ErrCollate", Rows.laid_trawl_api_ErrCollate), ("trawl/api.ErrEscape", Rows.laid_trawl_api_ErrEscape), ("trawl/api.ErrRepeat", Rows.laid_trawl_api_ErrRepeat), ("trawl/api.ErrTooBig", Rows.laid_trawl_api_ErrTooBig), ("trawl/api.ErrNest", Rows.laid_trawl_api_ErrNest), ("trawl/api.ErrLong", Rows.laid_trawl_api_ErrLong), ("trawl/api.ErrTree", Rows.laid_trawl_api_ErrTree), ("trawl/api.ErrDeep", Rows.laid_trawl_api_ErrDeep), ("trawl/api.ErrArgument", Rows.laid_trawl_api_ErrArgument), ("trawl/api.ErrNoMatch", Rows.laid_trawl_api_ErrNoMatch), ("trawl/api.ErrImage", Rows.laid_trawl_api_ErrImage), ("trawl/api.ErrMany", Rows.laid_trawl_api_ErrMany), ("trawl/api.ErrOption", Rows.laid_trawl_api_ErrOption), ("trawl/api.ErrCommand", Rows.laid_trawl_api_ErrCommand), ("trawl/api.ErrClosed", Rows.laid_trawl_api_ErrClosed), ("unicode/utf8.first", Rows.laid_unicode_utf8_first)] = true := by
  unfold Program.listedFits
  rw [noOwnUnsafe]
  kernel_rfl
theorem tie2 : Tryd.prog.laidByTextLater [("unicode/utf8.acceptRanges", Rows.laid_unicode_utf8_acceptRanges), ("errors.errorType", Rows.laid_errors_errorType), ("trawl/api.ErrBracket", Rows.laid_trawl_api_ErrBracket), ("trawl/api.ErrParen", Rows.laid_trawl_api_ErrParen), ("trawl/api.ErrBrace", Rows.laid_trawl_api_ErrBrace), ("trawl/api.ErrCount", Rows.laid_trawl_api_ErrCount), ("trawl/api.ErrRange", Rows.laid_trawl_api_ErrRange), ("trawl/api.ErrClass", Rows.laid_trawl_api_ErrClass), ("trawl/api.ErrCollate", Rows.laid_trawl_api_ErrCollate), ("trawl/api.ErrEscape", Rows.laid_trawl_api_ErrEscape), ("trawl/api.ErrRepeat", Rows.laid_trawl_api_ErrRepeat), ("trawl/api.ErrTooBig", Rows.laid_trawl_api_ErrTooBig), ("trawl/api.ErrNest", Rows.laid_trawl_api_ErrNest), ("trawl/api.ErrLong", Rows.laid_trawl_api_ErrLong), ("trawl/api.ErrTree", Rows.laid_trawl_api_ErrTree), ("trawl/api.ErrDeep", Rows.laid_trawl_api_ErrDeep), ("trawl/api.ErrArgument", Rows.laid_trawl_api_ErrArgument), ("trawl/api.ErrNoMatch", Rows.laid_trawl_api_ErrNoMatch), ("trawl/api.ErrImage", Rows.laid_trawl_api_ErrImage), ("trawl/api.ErrMany", Rows.laid_trawl_api_ErrMany), ("trawl/api.ErrOption", Rows.laid_trawl_api_ErrOption), ("trawl/api.ErrCommand", Rows.laid_trawl_api_ErrCommand), ("trawl/api.ErrClosed", Rows.laid_trawl_api_ErrClosed)] [.data, .handle, .sentinel, .sentinel, .sentinel, .sentinel, .sentinel, .sentinel, .sentinel, .sentinel, .sentinel, .sentinel, .sentinel, .sentinel, .sentinel, .sentinel, .sentinel, .sentinel, .sentinel, .sentinel, .sentinel, .sentinel, .sentinel] true :=
  Program.laidByTextLater.sub seatTie1 ["unicode/utf8.acceptRanges", "errors.errorType", "trawl/api.ErrBracket", "trawl/api.ErrParen", "trawl/api.ErrBrace", "trawl/api.ErrCount", "trawl/api.ErrRange", "trawl/api.ErrClass", "trawl/api.ErrCollate", "trawl/api.ErrEscape", "trawl/api.ErrRepeat", "trawl/api.ErrTooBig", "trawl/api.ErrNest", "trawl/api.ErrLong", "trawl/api.ErrTree", "trawl/api.ErrDeep", "trawl/api.ErrArgument", "trawl/api.ErrNoMatch", "trawl/api.ErrImage", "trawl/api.ErrMany", "trawl/api.ErrOption", "trawl/api.ErrCommand", "trawl/api.ErrClosed"] (by kernel_rfl) (by kernel_rfl)
theorem optionParses_row_tie : Rows.optionParsesRow.laidByTextAt .later Tryd.pinned [.data, .handle, .sentinel, .sentinel, .sentinel, .sentinel, .sentinel, .sentinel, .sentinel, .sentinel, .sentinel, .sentinel, .sentinel, .sentinel, .sentinel, .sentinel, .sentinel, .sentinel, .sentinel, .sentinel, .sentinel, .sentinel, .sentinel, .pinned] true :=
  OpenClaim.laidByTextAt_pinned rfl rfl tie2 rfl rfl rfl rfl (fun y hy _e => by
    simp only [Rows.optionParsesRow, List.zip_cons_cons, List.zip_nil_right, List.mem_cons, List.mem_nil_iff, or_false] at hy
    rcases hy with rfl | rfl | rfl | rfl | rfl | rfl | rfl | rfl | rfl | rfl | rfl | rfl | rfl | rfl | rfl | rfl | rfl | rfl | rfl | rfl | rfl | rfl | rfl | rfl
    · cases _e
    · cases _e
    · cases _e
    · cases _e
    · cases _e
    · cases _e
    · cases _e
    · cases _e
    · cases _e
    · cases _e
    · cases _e
    · cases _e
    · cases _e
    · cases _e
    · cases _e
    · cases _e
    · cases _e
    · cases _e
    · cases _e
    · cases _e
    · cases _e
    · cases _e
    · cases _e
    · exact ⟨pin_laid_unicode_utf8_first, by kernel_rfl⟩) fits2
theorem optionJoins_row_tie : Rows.optionJoinsRow.laidByTextAt .later Tryd.pinned [.data, .handle, .sentinel, .sentinel, .sentinel, .sentinel, .sentinel, .sentinel, .sentinel, .sentinel, .sentinel, .sentinel, .sentinel, .sentinel, .sentinel, .sentinel, .sentinel, .sentinel, .sentinel, .sentinel, .sentinel, .sentinel, .sentinel, .pinned] true :=
  OpenClaim.laidByTextAt_pinned rfl rfl tie2 rfl rfl rfl rfl (fun y hy _e => by
    simp only [Rows.optionJoinsRow, List.zip_cons_cons, List.zip_nil_right, List.mem_cons, List.mem_nil_iff, or_false] at hy
    rcases hy with rfl | rfl | rfl | rfl | rfl | rfl | rfl | rfl | rfl | rfl | rfl | rfl | rfl | rfl | rfl | rfl | rfl | rfl | rfl | rfl | rfl | rfl | rfl | rfl
    · cases _e
    · cases _e
    · cases _e
    · cases _e
    · cases _e
    · cases _e
    · cases _e
    · cases _e
    · cases _e
    · cases _e
    · cases _e
    · cases _e
    · cases _e
    · cases _e
    · cases _e
    · cases _e
    · cases _e
    · cases _e
    · cases _e
    · cases _e
    · cases _e
    · cases _e
    · cases _e
    · exact ⟨pin_laid_unicode_utf8_first, by kernel_rfl⟩) fits2
theorem tie3 : Tryd.prog.laidByTextLater [("math/bits.deBruijn32tab", Rows.laid_math_bits_deBruijn32tab), ("math/bits.deBruijn64tab", Rows.laid_math_bits_deBruijn64tab), ("internal/strconv.uint64pow10", Rows.laid_internal_strconv_uint64pow10), ("errors.errorType", Rows.laid_errors_errorType), ("trawl/api.ErrBracket", Rows.laid_trawl_api_ErrBracket), ("trawl/api.ErrParen", Rows.laid_trawl_api_ErrParen), ("trawl/api.ErrBrace", Rows.laid_trawl_api_ErrBrace), ("trawl/api.ErrCount", Rows.laid_trawl_api_ErrCount), ("trawl/api.ErrRange", Rows.laid_trawl_api_ErrRange), ("trawl/api.ErrClass", Rows.laid_trawl_api_ErrClass), ("trawl/api.ErrCollate", Rows.laid_trawl_api_ErrCollate), ("trawl/api.ErrEscape", Rows.laid_trawl_api_ErrEscape), ("trawl/api.ErrRepeat", Rows.laid_trawl_api_ErrRepeat), ("trawl/api.ErrTooBig", Rows.laid_trawl_api_ErrTooBig), ("trawl/api.ErrNest", Rows.laid_trawl_api_ErrNest), ("trawl/api.ErrLong", Rows.laid_trawl_api_ErrLong), ("trawl/api.ErrTree", Rows.laid_trawl_api_ErrTree), ("trawl/api.ErrDeep", Rows.laid_trawl_api_ErrDeep), ("trawl/api.ErrArgument", Rows.laid_trawl_api_ErrArgument), ("trawl/api.ErrNoMatch", Rows.laid_trawl_api_ErrNoMatch), ("trawl/api.ErrImage", Rows.laid_trawl_api_ErrImage), ("trawl/api.ErrMany", Rows.laid_trawl_api_ErrMany), ("trawl/api.ErrOption", Rows.laid_trawl_api_ErrOption), ("trawl/api.ErrCommand", Rows.laid_trawl_api_ErrCommand), ("trawl/api.ErrClosed", Rows.laid_trawl_api_ErrClosed)] [.data, .data, .data, .handle, .sentinel, .sentinel, .sentinel, .sentinel, .sentinel, .sentinel, .sentinel, .sentinel, .sentinel, .sentinel, .sentinel, .sentinel, .sentinel, .sentinel, .sentinel, .sentinel, .sentinel, .sentinel, .sentinel, .sentinel, .sentinel] true :=
  Program.laidByTextLater.sub seatTie1 ["math/bits.deBruijn32tab", "math/bits.deBruijn64tab", "internal/strconv.uint64pow10", "errors.errorType", "trawl/api.ErrBracket", "trawl/api.ErrParen", "trawl/api.ErrBrace", "trawl/api.ErrCount", "trawl/api.ErrRange", "trawl/api.ErrClass", "trawl/api.ErrCollate", "trawl/api.ErrEscape", "trawl/api.ErrRepeat", "trawl/api.ErrTooBig", "trawl/api.ErrNest", "trawl/api.ErrLong", "trawl/api.ErrTree", "trawl/api.ErrDeep", "trawl/api.ErrArgument", "trawl/api.ErrNoMatch", "trawl/api.ErrImage", "trawl/api.ErrMany", "trawl/api.ErrOption", "trawl/api.ErrCommand", "trawl/api.ErrClosed"] (by kernel_rfl) (by kernel_rfl)
theorem faultTells_row_tie : Rows.faultTellsRow.laidByTextAt .later Tryd.pinned [.data, .data, .data, .handle, .sentinel, .sentinel, .sentinel, .sentinel, .sentinel, .sentinel, .sentinel, .sentinel, .sentinel, .sentinel, .sentinel, .sentinel, .sentinel, .sentinel, .sentinel, .sentinel, .sentinel, .sentinel, .sentinel, .sentinel, .sentinel] true :=
  OpenClaim.laidByTextAt_later rfl rfl tie3 noOwnUnsafe
theorem faultWords_row_tie : Rows.faultWordsRow.laidByTextAt .later Tryd.pinned [.data, .data, .data, .handle, .sentinel, .sentinel, .sentinel, .sentinel, .sentinel, .sentinel, .sentinel, .sentinel, .sentinel, .sentinel, .sentinel, .sentinel, .sentinel, .sentinel, .sentinel, .sentinel, .sentinel, .sentinel, .sentinel, .sentinel, .sentinel] true :=
  OpenClaim.laidByTextAt_later rfl rfl tie3 noOwnUnsafe
theorem faultWraps_row_tie : Rows.faultWrapsRow.laidByTextAt .later Tryd.pinned [.data, .data, .data, .handle, .sentinel, .sentinel, .sentinel, .sentinel, .sentinel, .sentinel, .sentinel, .sentinel, .sentinel, .sentinel, .sentinel, .sentinel, .sentinel, .sentinel, .sentinel, .sentinel, .sentinel, .sentinel, .sentinel, .sentinel, .sentinel] true :=
  OpenClaim.laidByTextAt_later rfl rfl tie3 noOwnUnsafe
theorem faultHolds_row_tie : Rows.faultHoldsRow.laidByTextAt .later Tryd.pinned [.data, .data, .data, .handle, .sentinel, .sentinel, .sentinel, .sentinel, .sentinel, .sentinel, .sentinel, .sentinel, .sentinel, .sentinel, .sentinel, .sentinel, .sentinel, .sentinel, .sentinel, .sentinel, .sentinel, .sentinel, .sentinel, .sentinel, .sentinel] true :=
  OpenClaim.laidByTextAt_later rfl rfl tie3 noOwnUnsafe
theorem fits4 : Tryd.pinned.checked.prog.listedFits [("math/bits.deBruijn32tab", Rows.laid_math_bits_deBruijn32tab), ("math/bits.deBruijn64tab", Rows.laid_math_bits_deBruijn64tab), ("internal/strconv.uint64pow10", Rows.laid_internal_strconv_uint64pow10), ("unicode/utf8.acceptRanges", Rows.laid_unicode_utf8_acceptRanges), ("errors.errorType", Rows.laid_errors_errorType), ("trawl/api.ErrBracket", Rows.laid_trawl_api_ErrBracket), ("trawl/api.ErrParen", Rows.laid_trawl_api_ErrParen), ("trawl/api.ErrBrace", Rows.laid_trawl_api_ErrBrace), ("trawl/api.ErrCount", Rows.laid_trawl_api_ErrCount), ("trawl/api.ErrRange", Rows.laid_trawl_api_ErrRange), ("trawl/api.ErrClass", Rows.laid_trawl_api_ErrClass), ("trawl/api.ErrCollate", Rows.laid_trawl_api_ErrCollate), ("trawl/api.ErrEscape", Rows.laid_trawl_api_ErrEscape), ("trawl/api.ErrRepeat", Rows.laid_trawl_api_ErrRepeat), ("trawl/api.ErrTooBig", Rows.laid_trawl_api_ErrTooBig), ("trawl/api.ErrNest", Rows.laid_trawl_api_ErrNest), ("trawl/api.ErrLong", Rows.laid_trawl_api_ErrLong), ("trawl/api.ErrTree", Rows.laid_trawl_api_ErrTree), ("trawl/api.ErrDeep", Rows.laid_trawl_api_ErrDeep), ("trawl/api.ErrArgument", Rows.laid_trawl_api_ErrArgument), ("trawl/api.ErrNoMatch", Rows.laid_trawl_api_ErrNoMatch), ("trawl/api.ErrImage", Rows.laid_trawl_api_ErrImage), ("trawl/api.ErrMany", Rows.laid_trawl_api_ErrMany), ("trawl/api.ErrOption", Rows.laid_trawl_api_ErrOption), ("trawl/api.ErrCommand", Rows.laid_trawl_api_ErrCommand), ("trawl/api.ErrClosed", Rows.laid_trawl_api_ErrClosed), ("unicode/utf8.first", Rows.laid_unicode_utf8_first)] = true := by
  unfold Program.listedFits
  rw [noOwnUnsafe]
  kernel_rfl
theorem tie4 : Tryd.prog.laidByTextLater [("math/bits.deBruijn32tab", Rows.laid_math_bits_deBruijn32tab), ("math/bits.deBruijn64tab", Rows.laid_math_bits_deBruijn64tab), ("internal/strconv.uint64pow10", Rows.laid_internal_strconv_uint64pow10), ("unicode/utf8.acceptRanges", Rows.laid_unicode_utf8_acceptRanges), ("errors.errorType", Rows.laid_errors_errorType), ("trawl/api.ErrBracket", Rows.laid_trawl_api_ErrBracket), ("trawl/api.ErrParen", Rows.laid_trawl_api_ErrParen), ("trawl/api.ErrBrace", Rows.laid_trawl_api_ErrBrace), ("trawl/api.ErrCount", Rows.laid_trawl_api_ErrCount), ("trawl/api.ErrRange", Rows.laid_trawl_api_ErrRange), ("trawl/api.ErrClass", Rows.laid_trawl_api_ErrClass), ("trawl/api.ErrCollate", Rows.laid_trawl_api_ErrCollate), ("trawl/api.ErrEscape", Rows.laid_trawl_api_ErrEscape), ("trawl/api.ErrRepeat", Rows.laid_trawl_api_ErrRepeat), ("trawl/api.ErrTooBig", Rows.laid_trawl_api_ErrTooBig), ("trawl/api.ErrNest", Rows.laid_trawl_api_ErrNest), ("trawl/api.ErrLong", Rows.laid_trawl_api_ErrLong), ("trawl/api.ErrTree", Rows.laid_trawl_api_ErrTree), ("trawl/api.ErrDeep", Rows.laid_trawl_api_ErrDeep), ("trawl/api.ErrArgument", Rows.laid_trawl_api_ErrArgument), ("trawl/api.ErrNoMatch", Rows.laid_trawl_api_ErrNoMatch), ("trawl/api.ErrImage", Rows.laid_trawl_api_ErrImage), ("trawl/api.ErrMany", Rows.laid_trawl_api_ErrMany), ("trawl/api.ErrOption", Rows.laid_trawl_api_ErrOption), ("trawl/api.ErrCommand", Rows.laid_trawl_api_ErrCommand), ("trawl/api.ErrClosed", Rows.laid_trawl_api_ErrClosed)] [.data, .data, .data, .data, .handle, .sentinel, .sentinel, .sentinel, .sentinel, .sentinel, .sentinel, .sentinel, .sentinel, .sentinel, .sentinel, .sentinel, .sentinel, .sentinel, .sentinel, .sentinel, .sentinel, .sentinel, .sentinel, .sentinel, .sentinel, .sentinel] true :=
  Program.laidByTextLater.sub seatTie1 ["math/bits.deBruijn32tab", "math/bits.deBruijn64tab", "internal/strconv.uint64pow10", "unicode/utf8.acceptRanges", "errors.errorType", "trawl/api.ErrBracket", "trawl/api.ErrParen", "trawl/api.ErrBrace", "trawl/api.ErrCount", "trawl/api.ErrRange", "trawl/api.ErrClass", "trawl/api.ErrCollate", "trawl/api.ErrEscape", "trawl/api.ErrRepeat", "trawl/api.ErrTooBig", "trawl/api.ErrNest", "trawl/api.ErrLong", "trawl/api.ErrTree", "trawl/api.ErrDeep", "trawl/api.ErrArgument", "trawl/api.ErrNoMatch", "trawl/api.ErrImage", "trawl/api.ErrMany", "trawl/api.ErrOption", "trawl/api.ErrCommand", "trawl/api.ErrClosed"] (by kernel_rfl) (by kernel_rfl)
theorem optionWords_row_tie : Rows.optionWordsRow.laidByTextAt .later Tryd.pinned [.data, .data, .data, .data, .handle, .sentinel, .sentinel, .sentinel, .sentinel, .sentinel, .sentinel, .sentinel, .sentinel, .sentinel, .sentinel, .sentinel, .sentinel, .sentinel, .sentinel, .sentinel, .sentinel, .sentinel, .sentinel, .sentinel, .sentinel, .sentinel, .pinned] true :=
  OpenClaim.laidByTextAt_pinned rfl rfl tie4 rfl rfl rfl rfl (fun y hy _e => by
    simp only [Rows.optionWordsRow, List.zip_cons_cons, List.zip_nil_right, List.mem_cons, List.mem_nil_iff, or_false] at hy
    rcases hy with rfl | rfl | rfl | rfl | rfl | rfl | rfl | rfl | rfl | rfl | rfl | rfl | rfl | rfl | rfl | rfl | rfl | rfl | rfl | rfl | rfl | rfl | rfl | rfl | rfl | rfl | rfl
    · cases _e
    · cases _e
    · cases _e
    · cases _e
    · cases _e
    · cases _e
    · cases _e
    · cases _e
    · cases _e
    · cases _e
    · cases _e
    · cases _e
    · cases _e
    · cases _e
    · cases _e
    · cases _e
    · cases _e
    · cases _e
    · cases _e
    · cases _e
    · cases _e
    · cases _e
    · cases _e
    · cases _e
    · cases _e
    · cases _e
    · exact ⟨pin_laid_unicode_utf8_first, by kernel_rfl⟩) fits4
theorem optionBack_row_tie : Rows.optionBackRow.laidByTextAt .later Tryd.pinned [.data, .data, .data, .data, .handle, .sentinel, .sentinel, .sentinel, .sentinel, .sentinel, .sentinel, .sentinel, .sentinel, .sentinel, .sentinel, .sentinel, .sentinel, .sentinel, .sentinel, .sentinel, .sentinel, .sentinel, .sentinel, .sentinel, .sentinel, .sentinel, .pinned] true :=
  OpenClaim.laidByTextAt_pinned rfl rfl tie4 rfl rfl rfl rfl (fun y hy _e => by
    simp only [Rows.optionBackRow, List.zip_cons_cons, List.zip_nil_right, List.mem_cons, List.mem_nil_iff, or_false] at hy
    rcases hy with rfl | rfl | rfl | rfl | rfl | rfl | rfl | rfl | rfl | rfl | rfl | rfl | rfl | rfl | rfl | rfl | rfl | rfl | rfl | rfl | rfl | rfl | rfl | rfl | rfl | rfl | rfl
    · cases _e
    · cases _e
    · cases _e
    · cases _e
    · cases _e
    · cases _e
    · cases _e
    · cases _e
    · cases _e
    · cases _e
    · cases _e
    · cases _e
    · cases _e
    · cases _e
    · cases _e
    · cases _e
    · cases _e
    · cases _e
    · cases _e
    · cases _e
    · cases _e
    · cases _e
    · cases _e
    · cases _e
    · cases _e
    · cases _e
    · exact ⟨pin_laid_unicode_utf8_first, by kernel_rfl⟩) fits4
theorem normalMakesUpto_row_tie : Rows.normalMakesUptoRow.laidByTextAt .later Tryd.pinned [.sentinel, .sentinel, .sentinel, .sentinel, .sentinel, .sentinel, .sentinel, .sentinel, .sentinel, .sentinel, .sentinel, .sentinel, .sentinel, .sentinel, .sentinel, .sentinel, .sentinel, .sentinel, .sentinel, .sentinel, .sentinel] true :=
  OpenClaim.laidByTextAt_later rfl rfl tie noOwnUnsafe
theorem normalLessUpto_row_tie : Rows.normalLessUptoRow.laidByTextAt .later Tryd.pinned [.sentinel, .sentinel, .sentinel, .sentinel, .sentinel, .sentinel, .sentinel, .sentinel, .sentinel, .sentinel, .sentinel, .sentinel, .sentinel, .sentinel, .sentinel, .sentinel, .sentinel, .sentinel, .sentinel, .sentinel, .sentinel] true :=
  OpenClaim.laidByTextAt_later rfl rfl tie noOwnUnsafe
theorem optionParsesUpto_row_tie : Rows.optionParsesUptoRow.laidByTextAt .later Tryd.pinned [.data, .handle, .sentinel, .sentinel, .sentinel, .sentinel, .sentinel, .sentinel, .sentinel, .sentinel, .sentinel, .sentinel, .sentinel, .sentinel, .sentinel, .sentinel, .sentinel, .sentinel, .sentinel, .sentinel, .sentinel, .sentinel, .sentinel, .pinned] true :=
  OpenClaim.laidByTextAt_pinned rfl rfl tie2 rfl rfl rfl rfl (fun y hy _e => by
    simp only [Rows.optionParsesUptoRow, List.zip_cons_cons, List.zip_nil_right, List.mem_cons, List.mem_nil_iff, or_false] at hy
    rcases hy with rfl | rfl | rfl | rfl | rfl | rfl | rfl | rfl | rfl | rfl | rfl | rfl | rfl | rfl | rfl | rfl | rfl | rfl | rfl | rfl | rfl | rfl | rfl | rfl
    · cases _e
    · cases _e
    · cases _e
    · cases _e
    · cases _e
    · cases _e
    · cases _e
    · cases _e
    · cases _e
    · cases _e
    · cases _e
    · cases _e
    · cases _e
    · cases _e
    · cases _e
    · cases _e
    · cases _e
    · cases _e
    · cases _e
    · cases _e
    · cases _e
    · cases _e
    · cases _e
    · exact ⟨pin_laid_unicode_utf8_first, by kernel_rfl⟩) fits2
theorem faultTellsUpto_row_tie : Rows.faultTellsUptoRow.laidByTextAt .later Tryd.pinned [.data, .data, .data, .handle, .sentinel, .sentinel, .sentinel, .sentinel, .sentinel, .sentinel, .sentinel, .sentinel, .sentinel, .sentinel, .sentinel, .sentinel, .sentinel, .sentinel, .sentinel, .sentinel, .sentinel, .sentinel, .sentinel, .sentinel, .sentinel] true :=
  OpenClaim.laidByTextAt_later rfl rfl tie3 noOwnUnsafe
theorem faultWordsUpto_row_tie : Rows.faultWordsUptoRow.laidByTextAt .later Tryd.pinned [.data, .data, .data, .handle, .sentinel, .sentinel, .sentinel, .sentinel, .sentinel, .sentinel, .sentinel, .sentinel, .sentinel, .sentinel, .sentinel, .sentinel, .sentinel, .sentinel, .sentinel, .sentinel, .sentinel, .sentinel, .sentinel, .sentinel, .sentinel] true :=
  OpenClaim.laidByTextAt_later rfl rfl tie3 noOwnUnsafe
theorem faultWrapsUpto_row_tie : Rows.faultWrapsUptoRow.laidByTextAt .later Tryd.pinned [.data, .data, .data, .handle, .sentinel, .sentinel, .sentinel, .sentinel, .sentinel, .sentinel, .sentinel, .sentinel, .sentinel, .sentinel, .sentinel, .sentinel, .sentinel, .sentinel, .sentinel, .sentinel, .sentinel, .sentinel, .sentinel, .sentinel, .sentinel] true :=
  OpenClaim.laidByTextAt_later rfl rfl tie3 noOwnUnsafe
theorem faultHoldsUpto_row_tie : Rows.faultHoldsUptoRow.laidByTextAt .later Tryd.pinned [.data, .data, .data, .handle, .sentinel, .sentinel, .sentinel, .sentinel, .sentinel, .sentinel, .sentinel, .sentinel, .sentinel, .sentinel, .sentinel, .sentinel, .sentinel, .sentinel, .sentinel, .sentinel, .sentinel, .sentinel, .sentinel, .sentinel, .sentinel] true :=
  OpenClaim.laidByTextAt_later rfl rfl tie3 noOwnUnsafe
theorem optionJoinsUpto_row_tie : Rows.optionJoinsUptoRow.laidByTextAt .later Tryd.pinned [.data, .handle, .sentinel, .sentinel, .sentinel, .sentinel, .sentinel, .sentinel, .sentinel, .sentinel, .sentinel, .sentinel, .sentinel, .sentinel, .sentinel, .sentinel, .sentinel, .sentinel, .sentinel, .sentinel, .sentinel, .sentinel, .sentinel, .pinned] true :=
  OpenClaim.laidByTextAt_pinned rfl rfl tie2 rfl rfl rfl rfl (fun y hy _e => by
    simp only [Rows.optionJoinsUptoRow, List.zip_cons_cons, List.zip_nil_right, List.mem_cons, List.mem_nil_iff, or_false] at hy
    rcases hy with rfl | rfl | rfl | rfl | rfl | rfl | rfl | rfl | rfl | rfl | rfl | rfl | rfl | rfl | rfl | rfl | rfl | rfl | rfl | rfl | rfl | rfl | rfl | rfl
    · cases _e
    · cases _e
    · cases _e
    · cases _e
    · cases _e
    · cases _e
    · cases _e
    · cases _e
    · cases _e
    · cases _e
    · cases _e
    · cases _e
    · cases _e
    · cases _e
    · cases _e
    · cases _e
    · cases _e
    · cases _e
    · cases _e
    · cases _e
    · cases _e
    · cases _e
    · cases _e
    · exact ⟨pin_laid_unicode_utf8_first, by kernel_rfl⟩) fits2
theorem optionWordsUpto_row_tie : Rows.optionWordsUptoRow.laidByTextAt .later Tryd.pinned [.data, .data, .data, .data, .handle, .sentinel, .sentinel, .sentinel, .sentinel, .sentinel, .sentinel, .sentinel, .sentinel, .sentinel, .sentinel, .sentinel, .sentinel, .sentinel, .sentinel, .sentinel, .sentinel, .sentinel, .sentinel, .sentinel, .sentinel, .sentinel, .pinned] true :=
  OpenClaim.laidByTextAt_pinned rfl rfl tie4 rfl rfl rfl rfl (fun y hy _e => by
    simp only [Rows.optionWordsUptoRow, List.zip_cons_cons, List.zip_nil_right, List.mem_cons, List.mem_nil_iff, or_false] at hy
    rcases hy with rfl | rfl | rfl | rfl | rfl | rfl | rfl | rfl | rfl | rfl | rfl | rfl | rfl | rfl | rfl | rfl | rfl | rfl | rfl | rfl | rfl | rfl | rfl | rfl | rfl | rfl | rfl
    · cases _e
    · cases _e
    · cases _e
    · cases _e
    · cases _e
    · cases _e
    · cases _e
    · cases _e
    · cases _e
    · cases _e
    · cases _e
    · cases _e
    · cases _e
    · cases _e
    · cases _e
    · cases _e
    · cases _e
    · cases _e
    · cases _e
    · cases _e
    · cases _e
    · cases _e
    · cases _e
    · cases _e
    · cases _e
    · cases _e
    · exact ⟨pin_laid_unicode_utf8_first, by kernel_rfl⟩) fits4
theorem optionBackUpto_row_tie : Rows.optionBackUptoRow.laidByTextAt .later Tryd.pinned [.data, .data, .data, .data, .handle, .sentinel, .sentinel, .sentinel, .sentinel, .sentinel, .sentinel, .sentinel, .sentinel, .sentinel, .sentinel, .sentinel, .sentinel, .sentinel, .sentinel, .sentinel, .sentinel, .sentinel, .sentinel, .sentinel, .sentinel, .sentinel, .pinned] true :=
  OpenClaim.laidByTextAt_pinned rfl rfl tie4 rfl rfl rfl rfl (fun y hy _e => by
    simp only [Rows.optionBackUptoRow, List.zip_cons_cons, List.zip_nil_right, List.mem_cons, List.mem_nil_iff, or_false] at hy
    rcases hy with rfl | rfl | rfl | rfl | rfl | rfl | rfl | rfl | rfl | rfl | rfl | rfl | rfl | rfl | rfl | rfl | rfl | rfl | rfl | rfl | rfl | rfl | rfl | rfl | rfl | rfl | rfl
    · cases _e
    · cases _e
    · cases _e
    · cases _e
    · cases _e
    · cases _e
    · cases _e
    · cases _e
    · cases _e
    · cases _e
    · cases _e
    · cases _e
    · cases _e
    · cases _e
    · cases _e
    · cases _e
    · cases _e
    · cases _e
    · cases _e
    · cases _e
    · cases _e
    · cases _e
    · cases _e
    · cases _e
    · cases _e
    · cases _e
    · exact ⟨pin_laid_unicode_utf8_first, by kernel_rfl⟩) fits4
end Go.Proofs.YtkcgbdoplhgbmaaDoor
