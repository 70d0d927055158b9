/-
  NARROWER THAN 'FOR EVERY INPUT', by the rows' own cells (each row's printed sentence says how): RankedFinds: loops, laid · RankedSpans: loops, laid.
  DERIVED. THE GIVEN ROWS OF THIS SEAT. 2 by the template 'for every input the law returns true; each argument reads behind the call as it read before'; 0 by the template 'total and deterministic' (their statements: YtgfknlkpdiejgaaGreatDoorTotals.lean).
  GIVEN WITH THE SEED: the statements are not yours to turn. If you find one false, say at which input.
  Laid BY PROGRAM, IN A SANDBOX (cutbox-rows.mjs): the forced cells as the released guide's own fill.sh prints them over the translation ea24228e6c269ff1… (all of the seat's roots in one cut). By AI agents, Wed Nov 11 2026. No macro, syntax, notation, axiom, sorry.
-/
import Derived.Test.YtgfknlkpdiejgaaGreatDoorChecked
import GoSem.Claim
import GoSem.ClaimJoined
import GoSem.ClaimMapViews
import Derived.JoinedTies
import Derived.KernelRfl
namespace Go.Proofs.YtgfknlkpdiejgaaGreatDoor
/- THE CELL 'sum', in the pinned program and in every row, IS THE sha256 OF THE DUMP (.gsa) THAT YtgfknlkpdiejgaaGreatDoorProg.lean LOADS. Nothing in Lean hashes anything: it is a label: what it is worth is what the hold of that sum in a sandbox is worth. -/
noncomputable def Tryz.pinned : Pinned := { name := "ytgfknlkpdiejgaagreatdoor", sum := "ea24228e6c269ff16f2ed40f1990076f81f84fb30d82b8199824292dd431babd", checked := Tryz.checked }
namespace Rows
def none {H : Type} : Left H := { results := [], args := [] }

/- WHAT THE LISTED PACKAGE-LEVEL VARIABLES READ AS WHEN THE CALL BEGINS. Each datum BY PROGRAM (the guide's laid-datum.mjs) off the statement by which the dump's own 'gosem.cut.vars' lays the variable. In a bare row this is a premise. The card (YtgfknlkpdiejgaaGreatDoorCards.lean) ties it to the program's text. -/
def laid_math_bits_deBruijn64tab {H : Type} : DataW H := .agg [.lit (.int .u8 0), .lit (.int .u8 1), .lit (.int .u8 56), .lit (.int .u8 2), .lit (.int .u8 57), .lit (.int .u8 49), .lit (.int .u8 28), .lit (.int .u8 3), .lit (.int .u8 61), .lit (.int .u8 58), .lit (.int .u8 42), .lit (.int .u8 50), .lit (.int .u8 38), .lit (.int .u8 29), .lit (.int .u8 17), .lit (.int .u8 4), .lit (.int .u8 62), .lit (.int .u8 47), .lit (.int .u8 59), .lit (.int .u8 36), .lit (.int .u8 45), .lit (.int .u8 43), .lit (.int .u8 51), .lit (.int .u8 22), .lit (.int .u8 53), .lit (.int .u8 39), .lit (.int .u8 33), .lit (.int .u8 30), .lit (.int .u8 24), .lit (.int .u8 18), .lit (.int .u8 12), .lit (.int .u8 5), .lit (.int .u8 63), .lit (.int .u8 55), .lit (.int .u8 48), .lit (.int .u8 27), .lit (.int .u8 60), .lit (.int .u8 41), .lit (.int .u8 37), .lit (.int .u8 16), .lit (.int .u8 46), .lit (.int .u8 35), .lit (.int .u8 44), .lit (.int .u8 21), .lit (.int .u8 52), .lit (.int .u8 32), .lit (.int .u8 23), .lit (.int .u8 11), .lit (.int .u8 54), .lit (.int .u8 26), .lit (.int .u8 40), .lit (.int .u8 15), .lit (.int .u8 34), .lit (.int .u8 20), .lit (.int .u8 31), .lit (.int .u8 10), .lit (.int .u8 25), .lit (.int .u8 14), .lit (.int .u8 19), .lit (.int .u8 9), .lit (.int .u8 13), .lit (.int .u8 8), .lit (.int .u8 7), .lit (.int .u8 6)]
def laid_trawl_api_ErrBracket {H : Type} : DataW H := .iface "*errors.errorString" (.ptr (.agg [.lit (.string [116, 114, 97, 119, 108, 58, 32, 98, 114, 97, 99, 107, 101, 116])]))
def laid_trawl_api_ErrParen {H : Type} : DataW H := .iface "*errors.errorString" (.ptr (.agg [.lit (.string [116, 114, 97, 119, 108, 58, 32, 112, 97, 114, 101, 110, 116, 104, 101, 115, 105, 115])]))
def laid_trawl_api_ErrBrace {H : Type} : DataW H := .iface "*errors.errorString" (.ptr (.agg [.lit (.string [116, 114, 97, 119, 108, 58, 32, 98, 114, 97, 99, 101])]))
def laid_trawl_api_ErrCount {H : Type} : DataW H := .iface "*errors.errorString" (.ptr (.agg [.lit (.string [116, 114, 97, 119, 108, 58, 32, 99, 111, 117, 110, 116])]))
def laid_trawl_api_ErrRange {H : Type} : DataW H := .iface "*errors.errorString" (.ptr (.agg [.lit (.string [116, 114, 97, 119, 108, 58, 32, 114, 97, 110, 103, 101])]))
def laid_trawl_api_ErrClass {H : Type} : DataW H := .iface "*errors.errorString" (.ptr (.agg [.lit (.string [116, 114, 97, 119, 108, 58, 32, 99, 108, 97, 115, 115])]))
def laid_trawl_api_ErrCollate {H : Type} : DataW H := .iface "*errors.errorString" (.ptr (.agg [.lit (.string [116, 114, 97, 119, 108, 58, 32, 99, 111, 108, 108, 97, 116, 105, 110, 103])]))
def laid_trawl_api_ErrEscape {H : Type} : DataW H := .iface "*errors.errorString" (.ptr (.agg [.lit (.string [116, 114, 97, 119, 108, 58, 32, 101, 115, 99, 97, 112, 101])]))
def laid_trawl_api_ErrRepeat {H : Type} : DataW H := .iface "*errors.errorString" (.ptr (.agg [.lit (.string [116, 114, 97, 119, 108, 58, 32, 114, 101, 112, 101, 97, 116])]))
def laid_trawl_api_ErrTooBig {H : Type} : DataW H := .iface "*errors.errorString" (.ptr (.agg [.lit (.string [116, 114, 97, 119, 108, 58, 32, 116, 111, 111, 32, 98, 105, 103])]))
def laid_trawl_api_ErrNest {H : Type} : DataW H := .iface "*errors.errorString" (.ptr (.agg [.lit (.string [116, 114, 97, 119, 108, 58, 32, 110, 101, 115, 116, 105, 110, 103])]))
def laid_trawl_api_ErrLong {H : Type} : DataW H := .iface "*errors.errorString" (.ptr (.agg [.lit (.string [116, 114, 97, 119, 108, 58, 32, 108, 111, 110, 103])]))
def laid_trawl_api_ErrTree {H : Type} : DataW H := .iface "*errors.errorString" (.ptr (.agg [.lit (.string [116, 114, 97, 119, 108, 58, 32, 116, 114, 101, 101])]))
def laid_trawl_api_ErrDeep {H : Type} : DataW H := .iface "*errors.errorString" (.ptr (.agg [.lit (.string [116, 114, 97, 119, 108, 58, 32, 100, 101, 101, 112])]))
def laid_trawl_api_ErrArgument {H : Type} : DataW H := .iface "*errors.errorString" (.ptr (.agg [.lit (.string [116, 114, 97, 119, 108, 58, 32, 97, 114, 103, 117, 109, 101, 110, 116])]))
def laid_trawl_api_ErrNoMatch {H : Type} : DataW H := .iface "*errors.errorString" (.ptr (.agg [.lit (.string [116, 114, 97, 119, 108, 58, 32, 110, 111, 32, 109, 97, 116, 99, 104])]))
def laid_trawl_api_ErrImage {H : Type} : DataW H := .iface "*errors.errorString" (.ptr (.agg [.lit (.string [116, 114, 97, 119, 108, 58, 32, 105, 109, 97, 103, 101])]))
def laid_trawl_api_ErrMany {H : Type} : DataW H := .iface "*errors.errorString" (.ptr (.agg [.lit (.string [116, 114, 97, 119, 108, 58, 32, 109, 97, 110, 121])]))
def laid_trawl_api_ErrOption {H : Type} : DataW H := .iface "*errors.errorString" (.ptr (.agg [.lit (.string [116, 114, 97, 119, 108, 58, 32, 111, 112, 116, 105, 111, 110])]))
def laid_trawl_api_ErrCommand {H : Type} : DataW H := .iface "*errors.errorString" (.ptr (.agg [.lit (.string [116, 114, 97, 119, 108, 58, 32, 99, 111, 109, 109, 97, 110, 100])]))
def laid_trawl_api_ErrClosed {H : Type} : DataW H := .iface "*errors.errorString" (.ptr (.agg [.lit (.string [116, 114, 97, 119, 108, 58, 32, 99, 108, 111, 115, 101, 100])]))

/-- 'trawllaw22.RankedFinds': WHATEVER THE INPUT: true; the input reads as it did. -/
def rankedFindsSpec : ChangeSpec := { name := "rankedFinds", fn := fun _ => fun
  | [d1, d2, d3, d4] => { results := [.lit (.bool true)], args := [d1, d2, d3, d4] }
  | _ => none }
def rankedFindsRow : OpenClaim := { program := "ytgfknlkpdiejgaagreatdoor", sum := "ea24228e6c269ff16f2ed40f1990076f81f84fb30d82b8199824292dd431babd", func := "trawl/trawllaw22.RankedFinds", spec := "rankedFinds", inPlace := ["internal/reflectlite.TypeOf"], unfollowed := true, recurses := true, named := ["trawl/api.ErrArgument", "trawl/api.ErrTree", "trawl/api.ErrDeep", "trawl/api.ErrTooBig", "math/bits.deBruijn64tab", "trawl/api.ErrBracket", "trawl/api.ErrParen", "trawl/api.ErrBrace", "trawl/api.ErrCount", "trawl/api.ErrRange", "trawl/api.ErrClass", "trawl/api.ErrCollate", "trawl/api.ErrEscape", "trawl/api.ErrRepeat", "trawl/api.ErrNest", "trawl/api.ErrLong", "trawl/api.ErrNoMatch", "trawl/api.ErrImage", "trawl/api.ErrMany", "trawl/api.ErrOption", "trawl/api.ErrCommand", "trawl/api.ErrClosed"], loops := true, apart := false, laid := [("math/bits.deBruijn64tab", laid_math_bits_deBruijn64tab), ("trawl/api.ErrBracket", laid_trawl_api_ErrBracket), ("trawl/api.ErrParen", laid_trawl_api_ErrParen), ("trawl/api.ErrBrace", laid_trawl_api_ErrBrace), ("trawl/api.ErrCount", laid_trawl_api_ErrCount), ("trawl/api.ErrRange", laid_trawl_api_ErrRange), ("trawl/api.ErrClass", laid_trawl_api_ErrClass), ("trawl/api.ErrCollate", laid_trawl_api_ErrCollate), ("trawl/api.ErrEscape", laid_trawl_api_ErrEscape), ("trawl/api.ErrRepeat", laid_trawl_api_ErrRepeat), ("trawl/api.ErrTooBig", laid_trawl_api_ErrTooBig), ("trawl/api.ErrNest", laid_trawl_api_ErrNest), ("trawl/api.ErrLong", laid_trawl_api_ErrLong), ("trawl/api.ErrTree", laid_trawl_api_ErrTree), ("trawl/api.ErrDeep", laid_trawl_api_ErrDeep), ("trawl/api.ErrArgument", laid_trawl_api_ErrArgument), ("trawl/api.ErrNoMatch", laid_trawl_api_ErrNoMatch), ("trawl/api.ErrImage", laid_trawl_api_ErrImage), ("trawl/api.ErrMany", laid_trawl_api_ErrMany), ("trawl/api.ErrOption", laid_trawl_api_ErrOption), ("trawl/api.ErrCommand", laid_trawl_api_ErrCommand), ("trawl/api.ErrClosed", laid_trawl_api_ErrClosed)] }
def RankedFindsSaid : Prop := rankedFindsRow.holds Tryz.pinned (OpenSpec.ofChange rankedFindsSpec)

/-- ITS FALSE NEIGHBOUR: 'it returns false'. Refute it at one input. -/
def rankedFindsWrong : ChangeSpec := { name := "rankedFinds", fn := fun _ => fun
  | [d1, d2, d3, d4] => { results := [.lit (.bool false)], args := [d1, d2, d3, d4] }
  | _ => none }
def RankedFindsWrongFalsely : Prop := rankedFindsRow.holds Tryz.pinned (OpenSpec.ofChange rankedFindsWrong)

/-- 'trawllaw22.RankedSpans': WHATEVER THE INPUT: true; the input reads as it did. -/
def rankedSpansSpec : ChangeSpec := { name := "rankedSpans", fn := fun _ => fun
  | [d1, d2, d3, d4, d5] => { results := [.lit (.bool true)], args := [d1, d2, d3, d4, d5] }
  | _ => none }
def rankedSpansRow : OpenClaim := { program := "ytgfknlkpdiejgaagreatdoor", sum := "ea24228e6c269ff16f2ed40f1990076f81f84fb30d82b8199824292dd431babd", func := "trawl/trawllaw22.RankedSpans", spec := "rankedSpans", inPlace := ["internal/reflectlite.TypeOf"], unfollowed := true, recurses := true, named := ["trawl/api.ErrArgument", "trawl/api.ErrTree", "trawl/api.ErrDeep", "trawl/api.ErrTooBig", "math/bits.deBruijn64tab", "trawl/api.ErrBracket", "trawl/api.ErrParen", "trawl/api.ErrBrace", "trawl/api.ErrCount", "trawl/api.ErrRange", "trawl/api.ErrClass", "trawl/api.ErrCollate", "trawl/api.ErrEscape", "trawl/api.ErrRepeat", "trawl/api.ErrNest", "trawl/api.ErrLong", "trawl/api.ErrNoMatch", "trawl/api.ErrImage", "trawl/api.ErrMany", "trawl/api.ErrOption", "trawl/api.ErrCommand", "trawl/api.ErrClosed"], loops := true, apart := false, laid := [("math/bits.deBruijn64tab", laid_math_bits_deBruijn64tab), ("trawl/api.ErrBracket", laid_trawl_api_ErrBracket), ("trawl/api.ErrParen", laid_trawl_api_ErrParen), ("trawl/api.ErrBrace", laid_trawl_api_ErrBrace), ("trawl/api.ErrCount", laid_trawl_api_ErrCount), ("trawl/api.ErrRange", laid_trawl_api_ErrRange), ("trawl/api.ErrClass", laid_trawl_api_ErrClass), ("trawl/api.ErrCollate", laid_trawl_api_ErrCollate), ("trawl/api.ErrEscape", laid_trawl_api_ErrEscape), ("trawl/api.ErrRepeat", laid_trawl_api_ErrRepeat), ("trawl/api.ErrTooBig", laid_trawl_api_ErrTooBig), ("trawl/api.ErrNest", laid_trawl_api_ErrNest), ("trawl/api.ErrLong", laid_trawl_api_ErrLong), ("trawl/api.ErrTree", laid_trawl_api_ErrTree), ("trawl/api.ErrDeep", laid_trawl_api_ErrDeep), ("trawl/api.ErrArgument", laid_trawl_api_ErrArgument), ("trawl/api.ErrNoMatch", laid_trawl_api_ErrNoMatch), ("trawl/api.ErrImage", laid_trawl_api_ErrImage), ("trawl/api.ErrMany", laid_trawl_api_ErrMany), ("trawl/api.ErrOption", laid_trawl_api_ErrOption), ("trawl/api.ErrCommand", laid_trawl_api_ErrCommand), ("trawl/api.ErrClosed", laid_trawl_api_ErrClosed)] }
def RankedSpansSaid : Prop := rankedSpansRow.holds Tryz.pinned (OpenSpec.ofChange rankedSpansSpec)

/-- ITS FALSE NEIGHBOUR: 'it returns false'. Refute it at one input. -/
def rankedSpansWrong : ChangeSpec := { name := "rankedSpans", fn := fun _ => fun
  | [d1, d2, d3, d4, d5] => { results := [.lit (.bool false)], args := [d1, d2, d3, d4, d5] }
  | _ => none }
def RankedSpansWrongFalsely : Prop := rankedSpansRow.holds Tryz.pinned (OpenSpec.ofChange rankedSpansWrong)

/- THE SECOND FORM. 'bulk': how many values and letters a reading holds, each counted each time it is reached (what is shared counts as often as it is met; a slice's spare places count too). A statement '..UptoSaid' is the law's where the arguments, and the package variables that the reading takes, are together of bulk at most 1048576: NARROWER than '..Said'. Prove '..Said' where nothing that the law and all that it calls make is longer than what came in: it says more and counts as full. Else prove '..UptoSaid'. A law counts once. -/
mutual
def uptoBulk {H : Type} : DataW H → Nat
  | .lit (.string bytes) => bytes.length + 1
  | .lit _ => 1
  | .nil => 1
  | .ptr d => uptoBulk d + 1
  | .slice elems spare => uptoBulkAll elems + uptoBulkAll spare + 1
  | .agg parts => uptoBulkAll parts + 1
  | .iface _ d => uptoBulk d + 1
  | .map entries => uptoBulkEntries entries + 1
  | .held _ => 1
def uptoBulkAll {H : Type} : List (DataW H) → Nat
  | [] => 0
  | d :: r => uptoBulk d + uptoBulkAll r
def uptoBulkEntries {H : Type} : List (Lit × DataW H) → Nat
  | [] => 0
  | x :: r => uptoBulkEntry x + uptoBulkEntries r
def uptoBulkEntry {H : Type} : Lit × DataW H → Nat
  | (.string bytes, d) => bytes.length + uptoBulk d + 1
  | (_, d) => uptoBulk d + 1
 end
def uptoSmall : (H : Type) → List (DataW H) → Bool := fun _ ds => decide (uptoBulkAll ds ≤ 1048576)
def OpenSpec.upto (s : _root_.Go.ChangeSpec) : _root_.Go.OpenSpec := { _root_.Go.OpenSpec.ofChange s with cond := some uptoSmall }

/-- 'trawllaw22.RankedFinds', WHERE WHAT IT READS IS OF BULK AT MOST 1048576: true; the input reads as it did. -/
def rankedFindsUptoRow : OpenClaim := { program := "ytgfknlkpdiejgaagreatdoor", sum := "ea24228e6c269ff16f2ed40f1990076f81f84fb30d82b8199824292dd431babd", func := "trawl/trawllaw22.RankedFinds", spec := "rankedFinds", inPlace := ["internal/reflectlite.TypeOf"], unfollowed := true, recurses := true, named := ["trawl/api.ErrArgument", "trawl/api.ErrTree", "trawl/api.ErrDeep", "trawl/api.ErrTooBig", "math/bits.deBruijn64tab", "trawl/api.ErrBracket", "trawl/api.ErrParen", "trawl/api.ErrBrace", "trawl/api.ErrCount", "trawl/api.ErrRange", "trawl/api.ErrClass", "trawl/api.ErrCollate", "trawl/api.ErrEscape", "trawl/api.ErrRepeat", "trawl/api.ErrNest", "trawl/api.ErrLong", "trawl/api.ErrNoMatch", "trawl/api.ErrImage", "trawl/api.ErrMany", "trawl/api.ErrOption", "trawl/api.ErrCommand", "trawl/api.ErrClosed"], loops := true, apart := false, laid := [("math/bits.deBruijn64tab", laid_math_bits_deBruijn64tab), ("trawl/api.ErrBracket", laid_trawl_api_ErrBracket), ("trawl/api.ErrParen", laid_trawl_api_ErrParen), ("trawl/api.ErrBrace", laid_trawl_api_ErrBrace), ("trawl/api.ErrCount", laid_trawl_api_ErrCount), ("trawl/api.ErrRange", laid_trawl_api_ErrRange), ("trawl/api.ErrClass", laid_trawl_api_ErrClass), ("trawl/api.ErrCollate", laid_trawl_api_ErrCollate), ("trawl/api.ErrEscape", laid_trawl_api_ErrEscape), ("trawl/api.ErrRepeat", laid_trawl_api_ErrRepeat), ("trawl/api.ErrTooBig", laid_trawl_api_ErrTooBig), ("trawl/api.ErrNest", laid_trawl_api_ErrNest), ("trawl/api.ErrLong", laid_trawl_api_ErrLong), ("trawl/api.ErrTree", laid_trawl_api_ErrTree), ("trawl/api.ErrDeep", laid_trawl_api_ErrDeep), ("trawl/api.ErrArgument", laid_trawl_api_ErrArgument), ("trawl/api.ErrNoMatch", laid_trawl_api_ErrNoMatch), ("trawl/api.ErrImage", laid_trawl_api_ErrImage), ("trawl/api.ErrMany", laid_trawl_api_ErrMany), ("trawl/api.ErrOption", laid_trawl_api_ErrOption), ("trawl/api.ErrCommand", laid_trawl_api_ErrCommand), ("trawl/api.ErrClosed", laid_trawl_api_ErrClosed)], narrowed := true }
def RankedFindsUptoSaid : Prop := rankedFindsUptoRow.holds Tryz.pinned (OpenSpec.upto rankedFindsSpec)

/-- 'trawllaw22.RankedSpans', WHERE WHAT IT READS IS OF BULK AT MOST 1048576: true; the input reads as it did. -/
def rankedSpansUptoRow : OpenClaim := { program := "ytgfknlkpdiejgaagreatdoor", sum := "ea24228e6c269ff16f2ed40f1990076f81f84fb30d82b8199824292dd431babd", func := "trawl/trawllaw22.RankedSpans", spec := "rankedSpans", inPlace := ["internal/reflectlite.TypeOf"], unfollowed := true, recurses := true, named := ["trawl/api.ErrArgument", "trawl/api.ErrTree", "trawl/api.ErrDeep", "trawl/api.ErrTooBig", "math/bits.deBruijn64tab", "trawl/api.ErrBracket", "trawl/api.ErrParen", "trawl/api.ErrBrace", "trawl/api.ErrCount", "trawl/api.ErrRange", "trawl/api.ErrClass", "trawl/api.ErrCollate", "trawl/api.ErrEscape", "trawl/api.ErrRepeat", "trawl/api.ErrNest", "trawl/api.ErrLong", "trawl/api.ErrNoMatch", "trawl/api.ErrImage", "trawl/api.ErrMany", "trawl/api.ErrOption", "trawl/api.ErrCommand", "trawl/api.ErrClosed"], loops := true, apart := false, laid := [("math/bits.deBruijn64tab", laid_math_bits_deBruijn64tab), ("trawl/api.ErrBracket", laid_trawl_api_ErrBracket), ("trawl/api.ErrParen", laid_trawl_api_ErrParen), ("trawl/api.ErrBrace", laid_trawl_api_ErrBrace), ("trawl/api.ErrCount", laid_trawl_api_ErrCount), ("trawl/api.ErrRange", laid_trawl_api_ErrRange), ("trawl/api.ErrClass", laid_trawl_api_ErrClass), ("trawl/api.ErrCollate", laid_trawl_api_ErrCollate), ("trawl/api.ErrEscape", laid_trawl_api_ErrEscape), ("trawl/api.ErrRepeat", laid_trawl_api_ErrRepeat), ("trawl/api.ErrTooBig", laid_trawl_api_ErrTooBig), ("trawl/api.ErrNest", laid_trawl_api_ErrNest), ("trawl/api.ErrLong", laid_trawl_api_ErrLong), ("trawl/api.ErrTree", laid_trawl_api_ErrTree), ("trawl/api.ErrDeep", laid_trawl_api_ErrDeep), ("trawl/api.ErrArgument", laid_trawl_api_ErrArgument), ("trawl/api.ErrNoMatch", laid_trawl_api_ErrNoMatch), ("trawl/api.ErrImage", laid_trawl_api_ErrImage), ("trawl/api.ErrMany", laid_trawl_api_ErrMany), ("trawl/api.ErrOption", laid_trawl_api_ErrOption), ("trawl/api.ErrCommand", laid_trawl_api_ErrCommand), ("trawl/api.ErrClosed", laid_trawl_api_ErrClosed)], narrowed := true }
def RankedSpansUptoSaid : Prop := rankedSpansUptoRow.holds Tryz.pinned (OpenSpec.upto rankedSpansSpec)

end Rows
end Go.Proofs.YtgfknlkpdiejgaaGreatDoor
