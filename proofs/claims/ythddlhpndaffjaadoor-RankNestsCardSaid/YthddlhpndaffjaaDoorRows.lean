/-
  NARROWER THAN 'FOR EVERY INPUT', by the rows' own cells (each row's printed sentence says how): ExpandOwns: loops, laid · ExpandMakes: loops, laid · ImageEncodes: loops, laid · ImageDecodes: laid · ImageReads: laid · ExpandSizes: loops, laid · ImageBack: loops, laid · RankChecks: loops, laid · RankCompares: loops, laid · RankOrders: loops, laid · RankNests: loops, laid.
  DERIVED. THE GIVEN ROWS OF THIS SEAT. 11 by the template 'for every input the law returns true; each argument reads behind the call as it read before'; 0 by the template 'total and deterministic' (their statements: YthddlhpndaffjaaDoorTotals.lean).
  GIVEN WITH THE SEED: the statements are not yours to turn. If you find one false, say at which input.
  Laid BY PROGRAM, IN A SANDBOX (cutbox-rows.mjs): the forced cells as the released guide's own fill.sh prints them over the translation 524ce3f05abf9c6e… (all of the seat's roots in one cut). By AI agents, Wed Nov 11 2026. No macro, syntax, notation, axiom, sorry.
-/
import Derived.Test.YthddlhpndaffjaaDoorChecked
import GoSem.Claim
import GoSem.ClaimJoined
import GoSem.ClaimMapViews
import Derived.JoinedTies
import Derived.KernelRfl
namespace Go.Proofs.YthddlhpndaffjaaDoor
/- THE CELL 'sum', in the pinned program and in every row, IS THE sha256 OF THE DUMP (.gsa) THAT YthddlhpndaffjaaDoorProg.lean LOADS. Nothing in Lean hashes anything: it is a label: what it is worth is what the hold of that sum in a sandbox is worth. -/
noncomputable def Tryd.pinned : Pinned := { name := "ythddlhpndaffjaadoor", sum := "524ce3f05abf9c6e252c731f014f41bcb3ca0538e08b9e009052eae301691ede", checked := Tryd.checked }
namespace Rows
def none {H : Type} : Left H := { results := [], args := [] }

/- WHAT THE LISTED PACKAGE-LEVEL VARIABLES READ AS WHEN THE CALL BEGINS. Each datum BY PROGRAM (the guide's laid-datum.mjs) off the statement by which the dump's own 'gosem.cut.vars' lays the variable. In a bare row this is a premise. The card (YthddlhpndaffjaaDoorCards.lean) ties it to the program's text. -/
def laid_trawl_api_ErrTooBig {H : Type} : DataW H := .iface "*errors.errorString" (.ptr (.agg [.lit (.string [116, 114, 97, 119, 108, 58, 32, 116, 111, 111, 32, 98, 105, 103])]))
def laid_trawl_api_ErrTree {H : Type} : DataW H := .iface "*errors.errorString" (.ptr (.agg [.lit (.string [116, 114, 97, 119, 108, 58, 32, 116, 114, 101, 101])]))
def laid_trawl_api_ErrDeep {H : Type} : DataW H := .iface "*errors.errorString" (.ptr (.agg [.lit (.string [116, 114, 97, 119, 108, 58, 32, 100, 101, 101, 112])]))
def laid_trawl_api_ErrBracket {H : Type} : DataW H := .iface "*errors.errorString" (.ptr (.agg [.lit (.string [116, 114, 97, 119, 108, 58, 32, 98, 114, 97, 99, 107, 101, 116])]))
def laid_trawl_api_ErrParen {H : Type} : DataW H := .iface "*errors.errorString" (.ptr (.agg [.lit (.string [116, 114, 97, 119, 108, 58, 32, 112, 97, 114, 101, 110, 116, 104, 101, 115, 105, 115])]))
def laid_trawl_api_ErrBrace {H : Type} : DataW H := .iface "*errors.errorString" (.ptr (.agg [.lit (.string [116, 114, 97, 119, 108, 58, 32, 98, 114, 97, 99, 101])]))
def laid_trawl_api_ErrCount {H : Type} : DataW H := .iface "*errors.errorString" (.ptr (.agg [.lit (.string [116, 114, 97, 119, 108, 58, 32, 99, 111, 117, 110, 116])]))
def laid_trawl_api_ErrRange {H : Type} : DataW H := .iface "*errors.errorString" (.ptr (.agg [.lit (.string [116, 114, 97, 119, 108, 58, 32, 114, 97, 110, 103, 101])]))
def laid_trawl_api_ErrClass {H : Type} : DataW H := .iface "*errors.errorString" (.ptr (.agg [.lit (.string [116, 114, 97, 119, 108, 58, 32, 99, 108, 97, 115, 115])]))
def laid_trawl_api_ErrCollate {H : Type} : DataW H := .iface "*errors.errorString" (.ptr (.agg [.lit (.string [116, 114, 97, 119, 108, 58, 32, 99, 111, 108, 108, 97, 116, 105, 110, 103])]))
def laid_trawl_api_ErrEscape {H : Type} : DataW H := .iface "*errors.errorString" (.ptr (.agg [.lit (.string [116, 114, 97, 119, 108, 58, 32, 101, 115, 99, 97, 112, 101])]))
def laid_trawl_api_ErrRepeat {H : Type} : DataW H := .iface "*errors.errorString" (.ptr (.agg [.lit (.string [116, 114, 97, 119, 108, 58, 32, 114, 101, 112, 101, 97, 116])]))
def laid_trawl_api_ErrNest {H : Type} : DataW H := .iface "*errors.errorString" (.ptr (.agg [.lit (.string [116, 114, 97, 119, 108, 58, 32, 110, 101, 115, 116, 105, 110, 103])]))
def laid_trawl_api_ErrLong {H : Type} : DataW H := .iface "*errors.errorString" (.ptr (.agg [.lit (.string [116, 114, 97, 119, 108, 58, 32, 108, 111, 110, 103])]))
def laid_trawl_api_ErrArgument {H : Type} : DataW H := .iface "*errors.errorString" (.ptr (.agg [.lit (.string [116, 114, 97, 119, 108, 58, 32, 97, 114, 103, 117, 109, 101, 110, 116])]))
def laid_trawl_api_ErrNoMatch {H : Type} : DataW H := .iface "*errors.errorString" (.ptr (.agg [.lit (.string [116, 114, 97, 119, 108, 58, 32, 110, 111, 32, 109, 97, 116, 99, 104])]))
def laid_trawl_api_ErrImage {H : Type} : DataW H := .iface "*errors.errorString" (.ptr (.agg [.lit (.string [116, 114, 97, 119, 108, 58, 32, 105, 109, 97, 103, 101])]))
def laid_trawl_api_ErrMany {H : Type} : DataW H := .iface "*errors.errorString" (.ptr (.agg [.lit (.string [116, 114, 97, 119, 108, 58, 32, 109, 97, 110, 121])]))
def laid_trawl_api_ErrOption {H : Type} : DataW H := .iface "*errors.errorString" (.ptr (.agg [.lit (.string [116, 114, 97, 119, 108, 58, 32, 111, 112, 116, 105, 111, 110])]))
def laid_trawl_api_ErrCommand {H : Type} : DataW H := .iface "*errors.errorString" (.ptr (.agg [.lit (.string [116, 114, 97, 119, 108, 58, 32, 99, 111, 109, 109, 97, 110, 100])]))
def laid_trawl_api_ErrClosed {H : Type} : DataW H := .iface "*errors.errorString" (.ptr (.agg [.lit (.string [116, 114, 97, 119, 108, 58, 32, 99, 108, 111, 115, 101, 100])]))

/-- 'trawllaw14.ExpandOwns': WHATEVER THE INPUT: true; the input reads as it did. -/
def expandOwnsSpec : ChangeSpec := { name := "expandOwns", fn := fun _ => fun
  | [d] => { results := [.lit (.bool true)], args := [d] }
  | _ => none }
def expandOwnsRow : OpenClaim := { program := "ythddlhpndaffjaadoor", sum := "524ce3f05abf9c6e252c731f014f41bcb3ca0538e08b9e009052eae301691ede", func := "trawl/trawllaw14.ExpandOwns", spec := "expandOwns", recurses := true, named := ["trawl/api.ErrTree", "trawl/api.ErrDeep", "trawl/api.ErrTooBig"], loops := true, apart := false, laid := [("trawl/api.ErrTooBig", laid_trawl_api_ErrTooBig), ("trawl/api.ErrTree", laid_trawl_api_ErrTree), ("trawl/api.ErrDeep", laid_trawl_api_ErrDeep)] }
def ExpandOwnsSaid : Prop := expandOwnsRow.holds Tryd.pinned (OpenSpec.ofChange expandOwnsSpec)

/-- ITS FALSE NEIGHBOUR: 'it returns false'. Refute it at one input. -/
def expandOwnsWrong : ChangeSpec := { name := "expandOwns", fn := fun _ => fun
  | [d] => { results := [.lit (.bool false)], args := [d] }
  | _ => none }
def ExpandOwnsWrongFalsely : Prop := expandOwnsRow.holds Tryd.pinned (OpenSpec.ofChange expandOwnsWrong)

/-- 'trawllaw14.ExpandMakes': WHATEVER THE INPUT: true; the input reads as it did. -/
def expandMakesSpec : ChangeSpec := { name := "expandMakes", fn := fun _ => fun
  | [d] => { results := [.lit (.bool true)], args := [d] }
  | _ => none }
def expandMakesRow : OpenClaim := { program := "ythddlhpndaffjaadoor", sum := "524ce3f05abf9c6e252c731f014f41bcb3ca0538e08b9e009052eae301691ede", func := "trawl/trawllaw14.ExpandMakes", spec := "expandMakes", inPlace := ["internal/reflectlite.TypeOf"], unfollowed := true, recurses := true, named := ["trawl/api.ErrTree", "trawl/api.ErrDeep", "trawl/api.ErrTooBig", "trawl/api.ErrBracket", "trawl/api.ErrParen", "trawl/api.ErrBrace", "trawl/api.ErrCount", "trawl/api.ErrRange", "trawl/api.ErrClass", "trawl/api.ErrCollate", "trawl/api.ErrEscape", "trawl/api.ErrRepeat", "trawl/api.ErrNest", "trawl/api.ErrLong", "trawl/api.ErrArgument", "trawl/api.ErrNoMatch", "trawl/api.ErrImage", "trawl/api.ErrMany", "trawl/api.ErrOption", "trawl/api.ErrCommand", "trawl/api.ErrClosed"], loops := true, apart := false, laid := [("trawl/api.ErrBracket", laid_trawl_api_ErrBracket), ("trawl/api.ErrParen", laid_trawl_api_ErrParen), ("trawl/api.ErrBrace", laid_trawl_api_ErrBrace), ("trawl/api.ErrCount", laid_trawl_api_ErrCount), ("trawl/api.ErrRange", laid_trawl_api_ErrRange), ("trawl/api.ErrClass", laid_trawl_api_ErrClass), ("trawl/api.ErrCollate", laid_trawl_api_ErrCollate), ("trawl/api.ErrEscape", laid_trawl_api_ErrEscape), ("trawl/api.ErrRepeat", laid_trawl_api_ErrRepeat), ("trawl/api.ErrTooBig", laid_trawl_api_ErrTooBig), ("trawl/api.ErrNest", laid_trawl_api_ErrNest), ("trawl/api.ErrLong", laid_trawl_api_ErrLong), ("trawl/api.ErrTree", laid_trawl_api_ErrTree), ("trawl/api.ErrDeep", laid_trawl_api_ErrDeep), ("trawl/api.ErrArgument", laid_trawl_api_ErrArgument), ("trawl/api.ErrNoMatch", laid_trawl_api_ErrNoMatch), ("trawl/api.ErrImage", laid_trawl_api_ErrImage), ("trawl/api.ErrMany", laid_trawl_api_ErrMany), ("trawl/api.ErrOption", laid_trawl_api_ErrOption), ("trawl/api.ErrCommand", laid_trawl_api_ErrCommand), ("trawl/api.ErrClosed", laid_trawl_api_ErrClosed)] }
def ExpandMakesSaid : Prop := expandMakesRow.holds Tryd.pinned (OpenSpec.ofChange expandMakesSpec)

/-- ITS FALSE NEIGHBOUR: 'it returns false'. Refute it at one input. -/
def expandMakesWrong : ChangeSpec := { name := "expandMakes", fn := fun _ => fun
  | [d] => { results := [.lit (.bool false)], args := [d] }
  | _ => none }
def ExpandMakesWrongFalsely : Prop := expandMakesRow.holds Tryd.pinned (OpenSpec.ofChange expandMakesWrong)

/-- 'trawllaw09.ImageEncodes': WHATEVER THE INPUT: true; the input reads as it did. -/
def imageEncodesSpec : ChangeSpec := { name := "imageEncodes", fn := fun _ => fun
  | [d] => { results := [.lit (.bool true)], args := [d] }
  | _ => none }
def imageEncodesRow : OpenClaim := { program := "ythddlhpndaffjaadoor", sum := "524ce3f05abf9c6e252c731f014f41bcb3ca0538e08b9e009052eae301691ede", func := "trawl/trawllaw09.ImageEncodes", spec := "imageEncodes", inPlace := ["internal/reflectlite.TypeOf"], unfollowed := true, recurses := true, named := ["trawl/api.ErrTree", "trawl/api.ErrDeep", "trawl/api.ErrTooBig", "trawl/api.ErrImage", "trawl/api.ErrBracket", "trawl/api.ErrParen", "trawl/api.ErrBrace", "trawl/api.ErrCount", "trawl/api.ErrRange", "trawl/api.ErrClass", "trawl/api.ErrCollate", "trawl/api.ErrEscape", "trawl/api.ErrRepeat", "trawl/api.ErrNest", "trawl/api.ErrLong", "trawl/api.ErrArgument", "trawl/api.ErrNoMatch", "trawl/api.ErrMany", "trawl/api.ErrOption", "trawl/api.ErrCommand", "trawl/api.ErrClosed"], loops := true, apart := false, laid := [("trawl/api.ErrBracket", laid_trawl_api_ErrBracket), ("trawl/api.ErrParen", laid_trawl_api_ErrParen), ("trawl/api.ErrBrace", laid_trawl_api_ErrBrace), ("trawl/api.ErrCount", laid_trawl_api_ErrCount), ("trawl/api.ErrRange", laid_trawl_api_ErrRange), ("trawl/api.ErrClass", laid_trawl_api_ErrClass), ("trawl/api.ErrCollate", laid_trawl_api_ErrCollate), ("trawl/api.ErrEscape", laid_trawl_api_ErrEscape), ("trawl/api.ErrRepeat", laid_trawl_api_ErrRepeat), ("trawl/api.ErrTooBig", laid_trawl_api_ErrTooBig), ("trawl/api.ErrNest", laid_trawl_api_ErrNest), ("trawl/api.ErrLong", laid_trawl_api_ErrLong), ("trawl/api.ErrTree", laid_trawl_api_ErrTree), ("trawl/api.ErrDeep", laid_trawl_api_ErrDeep), ("trawl/api.ErrArgument", laid_trawl_api_ErrArgument), ("trawl/api.ErrNoMatch", laid_trawl_api_ErrNoMatch), ("trawl/api.ErrImage", laid_trawl_api_ErrImage), ("trawl/api.ErrMany", laid_trawl_api_ErrMany), ("trawl/api.ErrOption", laid_trawl_api_ErrOption), ("trawl/api.ErrCommand", laid_trawl_api_ErrCommand), ("trawl/api.ErrClosed", laid_trawl_api_ErrClosed)] }
def ImageEncodesSaid : Prop := imageEncodesRow.holds Tryd.pinned (OpenSpec.ofChange imageEncodesSpec)

/-- ITS FALSE NEIGHBOUR: 'it returns false'. Refute it at one input. -/
def imageEncodesWrong : ChangeSpec := { name := "imageEncodes", fn := fun _ => fun
  | [d] => { results := [.lit (.bool false)], args := [d] }
  | _ => none }
def ImageEncodesWrongFalsely : Prop := imageEncodesRow.holds Tryd.pinned (OpenSpec.ofChange imageEncodesWrong)

/-- 'trawllaw09.ImageDecodes': WHATEVER THE INPUT: true; the input reads as it did. -/
def imageDecodesSpec : ChangeSpec := { name := "imageDecodes", fn := fun _ => fun
  | [d] => { results := [.lit (.bool true)], args := [d] }
  | _ => none }
def imageDecodesRow : OpenClaim := { program := "ythddlhpndaffjaadoor", sum := "524ce3f05abf9c6e252c731f014f41bcb3ca0538e08b9e009052eae301691ede", func := "trawl/trawllaw09.ImageDecodes", spec := "imageDecodes", inPlace := ["internal/reflectlite.TypeOf"], unfollowed := true, recurses := true, named := ["trawl/api.ErrTree", "trawl/api.ErrDeep", "trawl/api.ErrTooBig", "trawl/api.ErrImage", "trawl/api.ErrBracket", "trawl/api.ErrParen", "trawl/api.ErrBrace", "trawl/api.ErrCount", "trawl/api.ErrRange", "trawl/api.ErrClass", "trawl/api.ErrCollate", "trawl/api.ErrEscape", "trawl/api.ErrRepeat", "trawl/api.ErrNest", "trawl/api.ErrLong", "trawl/api.ErrArgument", "trawl/api.ErrNoMatch", "trawl/api.ErrMany", "trawl/api.ErrOption", "trawl/api.ErrCommand", "trawl/api.ErrClosed"], apart := false, laid := [("trawl/api.ErrBracket", laid_trawl_api_ErrBracket), ("trawl/api.ErrParen", laid_trawl_api_ErrParen), ("trawl/api.ErrBrace", laid_trawl_api_ErrBrace), ("trawl/api.ErrCount", laid_trawl_api_ErrCount), ("trawl/api.ErrRange", laid_trawl_api_ErrRange), ("trawl/api.ErrClass", laid_trawl_api_ErrClass), ("trawl/api.ErrCollate", laid_trawl_api_ErrCollate), ("trawl/api.ErrEscape", laid_trawl_api_ErrEscape), ("trawl/api.ErrRepeat", laid_trawl_api_ErrRepeat), ("trawl/api.ErrTooBig", laid_trawl_api_ErrTooBig), ("trawl/api.ErrNest", laid_trawl_api_ErrNest), ("trawl/api.ErrLong", laid_trawl_api_ErrLong), ("trawl/api.ErrTree", laid_trawl_api_ErrTree), ("trawl/api.ErrDeep", laid_trawl_api_ErrDeep), ("trawl/api.ErrArgument", laid_trawl_api_ErrArgument), ("trawl/api.ErrNoMatch", laid_trawl_api_ErrNoMatch), ("trawl/api.ErrImage", laid_trawl_api_ErrImage), ("trawl/api.ErrMany", laid_trawl_api_ErrMany), ("trawl/api.ErrOption", laid_trawl_api_ErrOption), ("trawl/api.ErrCommand", laid_trawl_api_ErrCommand), ("trawl/api.ErrClosed", laid_trawl_api_ErrClosed)] }
def ImageDecodesSaid : Prop := imageDecodesRow.holds Tryd.pinned (OpenSpec.ofChange imageDecodesSpec)

/-- ITS FALSE NEIGHBOUR: 'it returns false'. Refute it at one input. -/
def imageDecodesWrong : ChangeSpec := { name := "imageDecodes", fn := fun _ => fun
  | [d] => { results := [.lit (.bool false)], args := [d] }
  | _ => none }
def ImageDecodesWrongFalsely : Prop := imageDecodesRow.holds Tryd.pinned (OpenSpec.ofChange imageDecodesWrong)

/-- 'trawllaw09.ImageReads': WHATEVER THE INPUT: true; the input reads as it did. -/
def imageReadsSpec : ChangeSpec := { name := "imageReads", fn := fun _ => fun
  | [d] => { results := [.lit (.bool true)], args := [d] }
  | _ => none }
def imageReadsRow : OpenClaim := { program := "ythddlhpndaffjaadoor", sum := "524ce3f05abf9c6e252c731f014f41bcb3ca0538e08b9e009052eae301691ede", func := "trawl/trawllaw09.ImageReads", spec := "imageReads", inPlace := ["internal/reflectlite.TypeOf"], unfollowed := true, recurses := true, named := ["trawl/api.ErrTree", "trawl/api.ErrDeep", "trawl/api.ErrTooBig", "trawl/api.ErrImage", "trawl/api.ErrBracket", "trawl/api.ErrParen", "trawl/api.ErrBrace", "trawl/api.ErrCount", "trawl/api.ErrRange", "trawl/api.ErrClass", "trawl/api.ErrCollate", "trawl/api.ErrEscape", "trawl/api.ErrRepeat", "trawl/api.ErrNest", "trawl/api.ErrLong", "trawl/api.ErrArgument", "trawl/api.ErrNoMatch", "trawl/api.ErrMany", "trawl/api.ErrOption", "trawl/api.ErrCommand", "trawl/api.ErrClosed"], apart := false, laid := [("trawl/api.ErrBracket", laid_trawl_api_ErrBracket), ("trawl/api.ErrParen", laid_trawl_api_ErrParen), ("trawl/api.ErrBrace", laid_trawl_api_ErrBrace), ("trawl/api.ErrCount", laid_trawl_api_ErrCount), ("trawl/api.ErrRange", laid_trawl_api_ErrRange), ("trawl/api.ErrClass", laid_trawl_api_ErrClass), ("trawl/api.ErrCollate", laid_trawl_api_ErrCollate), ("trawl/api.ErrEscape", laid_trawl_api_ErrEscape), ("trawl/api.ErrRepeat", laid_trawl_api_ErrRepeat), ("trawl/api.ErrTooBig", laid_trawl_api_ErrTooBig), ("trawl/api.ErrNest", laid_trawl_api_ErrNest), ("trawl/api.ErrLong", laid_trawl_api_ErrLong), ("trawl/api.ErrTree", laid_trawl_api_ErrTree), ("trawl/api.ErrDeep", laid_trawl_api_ErrDeep), ("trawl/api.ErrArgument", laid_trawl_api_ErrArgument), ("trawl/api.ErrNoMatch", laid_trawl_api_ErrNoMatch), ("trawl/api.ErrImage", laid_trawl_api_ErrImage), ("trawl/api.ErrMany", laid_trawl_api_ErrMany), ("trawl/api.ErrOption", laid_trawl_api_ErrOption), ("trawl/api.ErrCommand", laid_trawl_api_ErrCommand), ("trawl/api.ErrClosed", laid_trawl_api_ErrClosed)] }
def ImageReadsSaid : Prop := imageReadsRow.holds Tryd.pinned (OpenSpec.ofChange imageReadsSpec)

/-- ITS FALSE NEIGHBOUR: 'it returns false'. Refute it at one input. -/
def imageReadsWrong : ChangeSpec := { name := "imageReads", fn := fun _ => fun
  | [d] => { results := [.lit (.bool false)], args := [d] }
  | _ => none }
def ImageReadsWrongFalsely : Prop := imageReadsRow.holds Tryd.pinned (OpenSpec.ofChange imageReadsWrong)

/-- 'trawllaw14.ExpandSizes': WHATEVER THE INPUT: true; the input reads as it did. -/
def expandSizesSpec : ChangeSpec := { name := "expandSizes", fn := fun _ => fun
  | [d] => { results := [.lit (.bool true)], args := [d] }
  | _ => none }
def expandSizesRow : OpenClaim := { program := "ythddlhpndaffjaadoor", sum := "524ce3f05abf9c6e252c731f014f41bcb3ca0538e08b9e009052eae301691ede", func := "trawl/trawllaw14.ExpandSizes", spec := "expandSizes", inPlace := ["internal/reflectlite.TypeOf"], unfollowed := true, recurses := true, named := ["trawl/api.ErrTree", "trawl/api.ErrDeep", "trawl/api.ErrTooBig", "trawl/api.ErrBracket", "trawl/api.ErrParen", "trawl/api.ErrBrace", "trawl/api.ErrCount", "trawl/api.ErrRange", "trawl/api.ErrClass", "trawl/api.ErrCollate", "trawl/api.ErrEscape", "trawl/api.ErrRepeat", "trawl/api.ErrNest", "trawl/api.ErrLong", "trawl/api.ErrArgument", "trawl/api.ErrNoMatch", "trawl/api.ErrImage", "trawl/api.ErrMany", "trawl/api.ErrOption", "trawl/api.ErrCommand", "trawl/api.ErrClosed"], loops := true, apart := false, laid := [("trawl/api.ErrBracket", laid_trawl_api_ErrBracket), ("trawl/api.ErrParen", laid_trawl_api_ErrParen), ("trawl/api.ErrBrace", laid_trawl_api_ErrBrace), ("trawl/api.ErrCount", laid_trawl_api_ErrCount), ("trawl/api.ErrRange", laid_trawl_api_ErrRange), ("trawl/api.ErrClass", laid_trawl_api_ErrClass), ("trawl/api.ErrCollate", laid_trawl_api_ErrCollate), ("trawl/api.ErrEscape", laid_trawl_api_ErrEscape), ("trawl/api.ErrRepeat", laid_trawl_api_ErrRepeat), ("trawl/api.ErrTooBig", laid_trawl_api_ErrTooBig), ("trawl/api.ErrNest", laid_trawl_api_ErrNest), ("trawl/api.ErrLong", laid_trawl_api_ErrLong), ("trawl/api.ErrTree", laid_trawl_api_ErrTree), ("trawl/api.ErrDeep", laid_trawl_api_ErrDeep), ("trawl/api.ErrArgument", laid_trawl_api_ErrArgument), ("trawl/api.ErrNoMatch", laid_trawl_api_ErrNoMatch), ("trawl/api.ErrImage", laid_trawl_api_ErrImage), ("trawl/api.ErrMany", laid_trawl_api_ErrMany), ("trawl/api.ErrOption", laid_trawl_api_ErrOption), ("trawl/api.ErrCommand", laid_trawl_api_ErrCommand), ("trawl/api.ErrClosed", laid_trawl_api_ErrClosed)] }
def ExpandSizesSaid : Prop := expandSizesRow.holds Tryd.pinned (OpenSpec.ofChange expandSizesSpec)

/-- ITS FALSE NEIGHBOUR: 'it returns false'. Refute it at one input. -/
def expandSizesWrong : ChangeSpec := { name := "expandSizes", fn := fun _ => fun
  | [d] => { results := [.lit (.bool false)], args := [d] }
  | _ => none }
def ExpandSizesWrongFalsely : Prop := expandSizesRow.holds Tryd.pinned (OpenSpec.ofChange expandSizesWrong)

/-- 'trawllaw09.ImageBack': WHATEVER THE INPUT: true; the input reads as it did. -/
def imageBackSpec : ChangeSpec := { name := "imageBack", fn := fun _ => fun
  | [d1, d2, d3, d4] => { results := [.lit (.bool true)], args := [d1, d2, d3, d4] }
  | _ => none }
def imageBackRow : OpenClaim := { program := "ythddlhpndaffjaadoor", sum := "524ce3f05abf9c6e252c731f014f41bcb3ca0538e08b9e009052eae301691ede", func := "trawl/trawllaw09.ImageBack", spec := "imageBack", inPlace := ["internal/reflectlite.TypeOf"], unfollowed := true, recurses := true, named := ["trawl/api.ErrTree", "trawl/api.ErrDeep", "trawl/api.ErrTooBig", "trawl/api.ErrImage", "trawl/api.ErrBracket", "trawl/api.ErrParen", "trawl/api.ErrBrace", "trawl/api.ErrCount", "trawl/api.ErrRange", "trawl/api.ErrClass", "trawl/api.ErrCollate", "trawl/api.ErrEscape", "trawl/api.ErrRepeat", "trawl/api.ErrNest", "trawl/api.ErrLong", "trawl/api.ErrArgument", "trawl/api.ErrNoMatch", "trawl/api.ErrMany", "trawl/api.ErrOption", "trawl/api.ErrCommand", "trawl/api.ErrClosed"], loops := true, apart := false, laid := [("trawl/api.ErrBracket", laid_trawl_api_ErrBracket), ("trawl/api.ErrParen", laid_trawl_api_ErrParen), ("trawl/api.ErrBrace", laid_trawl_api_ErrBrace), ("trawl/api.ErrCount", laid_trawl_api_ErrCount), ("trawl/api.ErrRange", laid_trawl_api_ErrRange), ("trawl/api.ErrClass", laid_trawl_api_ErrClass), ("trawl/api.ErrCollate", laid_trawl_api_ErrCollate), ("trawl/api.ErrEscape", laid_trawl_api_ErrEscape), ("trawl/api.ErrRepeat", laid_trawl_api_ErrRepeat), ("trawl/api.ErrTooBig", laid_trawl_api_ErrTooBig), ("trawl/api.ErrNest", laid_trawl_api_ErrNest), ("trawl/api.ErrLong", laid_trawl_api_ErrLong), ("trawl/api.ErrTree", laid_trawl_api_ErrTree), ("trawl/api.ErrDeep", laid_trawl_api_ErrDeep), ("trawl/api.ErrArgument", laid_trawl_api_ErrArgument), ("trawl/api.ErrNoMatch", laid_trawl_api_ErrNoMatch), ("trawl/api.ErrImage", laid_trawl_api_ErrImage), ("trawl/api.ErrMany", laid_trawl_api_ErrMany), ("trawl/api.ErrOption", laid_trawl_api_ErrOption), ("trawl/api.ErrCommand", laid_trawl_api_ErrCommand), ("trawl/api.ErrClosed", laid_trawl_api_ErrClosed)] }
def ImageBackSaid : Prop := imageBackRow.holds Tryd.pinned (OpenSpec.ofChange imageBackSpec)

/-- ITS FALSE NEIGHBOUR: 'it returns false'. Refute it at one input. -/
def imageBackWrong : ChangeSpec := { name := "imageBack", fn := fun _ => fun
  | [d1, d2, d3, d4] => { results := [.lit (.bool false)], args := [d1, d2, d3, d4] }
  | _ => none }
def ImageBackWrongFalsely : Prop := imageBackRow.holds Tryd.pinned (OpenSpec.ofChange imageBackWrong)

/-- 'trawllaw12.RankChecks': WHATEVER THE INPUT: true; the input reads as it did. -/
def rankChecksSpec : ChangeSpec := { name := "rankChecks", fn := fun _ => fun
  | [d1, d2, d3, d4] => { results := [.lit (.bool true)], args := [d1, d2, d3, d4] }
  | _ => none }
def rankChecksRow : OpenClaim := { program := "ythddlhpndaffjaadoor", sum := "524ce3f05abf9c6e252c731f014f41bcb3ca0538e08b9e009052eae301691ede", func := "trawl/trawllaw12.RankChecks", spec := "rankChecks", recurses := true, named := ["trawl/api.ErrTree", "trawl/api.ErrDeep", "trawl/api.ErrTooBig"], loops := true, apart := false, laid := [("trawl/api.ErrTooBig", laid_trawl_api_ErrTooBig), ("trawl/api.ErrTree", laid_trawl_api_ErrTree), ("trawl/api.ErrDeep", laid_trawl_api_ErrDeep)] }
def RankChecksSaid : Prop := rankChecksRow.holds Tryd.pinned (OpenSpec.ofChange rankChecksSpec)

/-- ITS FALSE NEIGHBOUR: 'it returns false'. Refute it at one input. -/
def rankChecksWrong : ChangeSpec := { name := "rankChecks", fn := fun _ => fun
  | [d1, d2, d3, d4] => { results := [.lit (.bool false)], args := [d1, d2, d3, d4] }
  | _ => none }
def RankChecksWrongFalsely : Prop := rankChecksRow.holds Tryd.pinned (OpenSpec.ofChange rankChecksWrong)

/-- 'trawllaw12.RankCompares': WHATEVER THE INPUT: true; the input reads as it did. -/
def rankComparesSpec : ChangeSpec := { name := "rankCompares", fn := fun _ => fun
  | [d1, d2] => { results := [.lit (.bool true)], args := [d1, d2] }
  | _ => none }
def rankComparesRow : OpenClaim := { program := "ythddlhpndaffjaadoor", sum := "524ce3f05abf9c6e252c731f014f41bcb3ca0538e08b9e009052eae301691ede", func := "trawl/trawllaw12.RankCompares", spec := "rankCompares", recurses := true, named := ["trawl/api.ErrTree", "trawl/api.ErrDeep", "trawl/api.ErrTooBig"], loops := true, apart := false, laid := [("trawl/api.ErrTooBig", laid_trawl_api_ErrTooBig), ("trawl/api.ErrTree", laid_trawl_api_ErrTree), ("trawl/api.ErrDeep", laid_trawl_api_ErrDeep)] }
def RankComparesSaid : Prop := rankComparesRow.holds Tryd.pinned (OpenSpec.ofChange rankComparesSpec)

/-- ITS FALSE NEIGHBOUR: 'it returns false'. Refute it at one input. -/
def rankComparesWrong : ChangeSpec := { name := "rankCompares", fn := fun _ => fun
  | [d1, d2] => { results := [.lit (.bool false)], args := [d1, d2] }
  | _ => none }
def RankComparesWrongFalsely : Prop := rankComparesRow.holds Tryd.pinned (OpenSpec.ofChange rankComparesWrong)

/-- 'trawllaw12.RankOrders': WHATEVER THE INPUT: true; the input reads as it did. -/
def rankOrdersSpec : ChangeSpec := { name := "rankOrders", fn := fun _ => fun
  | [d1, d2, d3] => { results := [.lit (.bool true)], args := [d1, d2, d3] }
  | _ => none }
def rankOrdersRow : OpenClaim := { program := "ythddlhpndaffjaadoor", sum := "524ce3f05abf9c6e252c731f014f41bcb3ca0538e08b9e009052eae301691ede", func := "trawl/trawllaw12.RankOrders", spec := "rankOrders", recurses := true, named := ["trawl/api.ErrTree", "trawl/api.ErrDeep", "trawl/api.ErrTooBig"], loops := true, apart := false, laid := [("trawl/api.ErrTooBig", laid_trawl_api_ErrTooBig), ("trawl/api.ErrTree", laid_trawl_api_ErrTree), ("trawl/api.ErrDeep", laid_trawl_api_ErrDeep)] }
def RankOrdersSaid : Prop := rankOrdersRow.holds Tryd.pinned (OpenSpec.ofChange rankOrdersSpec)

/-- ITS FALSE NEIGHBOUR: 'it returns false'. Refute it at one input. -/
def rankOrdersWrong : ChangeSpec := { name := "rankOrders", fn := fun _ => fun
  | [d1, d2, d3] => { results := [.lit (.bool false)], args := [d1, d2, d3] }
  | _ => none }
def RankOrdersWrongFalsely : Prop := rankOrdersRow.holds Tryd.pinned (OpenSpec.ofChange rankOrdersWrong)

/-- 'trawllaw12.RankNests': WHATEVER THE INPUT: true; the input reads as it did. -/
def rankNestsSpec : ChangeSpec := { name := "rankNests", fn := fun _ => fun
  | [d1, d2, d3] => { results := [.lit (.bool true)], args := [d1, d2, d3] }
  | _ => none }
def rankNestsRow : OpenClaim := { program := "ythddlhpndaffjaadoor", sum := "524ce3f05abf9c6e252c731f014f41bcb3ca0538e08b9e009052eae301691ede", func := "trawl/trawllaw12.RankNests", spec := "rankNests", recurses := true, named := ["trawl/api.ErrTree", "trawl/api.ErrDeep", "trawl/api.ErrTooBig"], loops := true, apart := false, laid := [("trawl/api.ErrTooBig", laid_trawl_api_ErrTooBig), ("trawl/api.ErrTree", laid_trawl_api_ErrTree), ("trawl/api.ErrDeep", laid_trawl_api_ErrDeep)] }
def RankNestsSaid : Prop := rankNestsRow.holds Tryd.pinned (OpenSpec.ofChange rankNestsSpec)

/-- ITS FALSE NEIGHBOUR: 'it returns false'. Refute it at one input. -/
def rankNestsWrong : ChangeSpec := { name := "rankNests", fn := fun _ => fun
  | [d1, d2, d3] => { results := [.lit (.bool false)], args := [d1, d2, d3] }
  | _ => none }
def RankNestsWrongFalsely : Prop := rankNestsRow.holds Tryd.pinned (OpenSpec.ofChange rankNestsWrong)

/- THE SECOND FORM. 'bulk': how many values and letters a reading holds, each counted each time it is reached (what is shared counts as often as it is met; a slice's spare places count too). A statement '..UptoSaid' is the law's where the arguments, and the package variables that the reading takes, are together of bulk at most 1048576: NARROWER than '..Said'. Prove '..Said' where nothing that the law and all that it calls make is longer than what came in: it says more and counts as full. Else prove '..UptoSaid'. A law counts once. -/
mutual
def uptoBulk {H : Type} : DataW H → Nat
  | .lit (.string bytes) => bytes.length + 1
  | .lit _ => 1
  | .nil => 1
  | .ptr d => uptoBulk d + 1
  | .slice elems spare => uptoBulkAll elems + uptoBulkAll spare + 1
  | .agg parts => uptoBulkAll parts + 1
  | .iface _ d => uptoBulk d + 1
  | .map entries => uptoBulkEntries entries + 1
  | .held _ => 1
def uptoBulkAll {H : Type} : List (DataW H) → Nat
  | [] => 0
  | d :: r => uptoBulk d + uptoBulkAll r
def uptoBulkEntries {H : Type} : List (Lit × DataW H) → Nat
  | [] => 0
  | x :: r => uptoBulkEntry x + uptoBulkEntries r
def uptoBulkEntry {H : Type} : Lit × DataW H → Nat
  | (.string bytes, d) => bytes.length + uptoBulk d + 1
  | (_, d) => uptoBulk d + 1
 end
def uptoSmall : (H : Type) → List (DataW H) → Bool := fun _ ds => decide (uptoBulkAll ds ≤ 1048576)
def OpenSpec.upto (s : _root_.Go.ChangeSpec) : _root_.Go.OpenSpec := { _root_.Go.OpenSpec.ofChange s with cond := some uptoSmall }

/-- 'trawllaw14.ExpandOwns', WHERE WHAT IT READS IS OF BULK AT MOST 1048576: true; the input reads as it did. -/
def expandOwnsUptoRow : OpenClaim := { program := "ythddlhpndaffjaadoor", sum := "524ce3f05abf9c6e252c731f014f41bcb3ca0538e08b9e009052eae301691ede", func := "trawl/trawllaw14.ExpandOwns", spec := "expandOwns", recurses := true, named := ["trawl/api.ErrTree", "trawl/api.ErrDeep", "trawl/api.ErrTooBig"], loops := true, apart := false, laid := [("trawl/api.ErrTooBig", laid_trawl_api_ErrTooBig), ("trawl/api.ErrTree", laid_trawl_api_ErrTree), ("trawl/api.ErrDeep", laid_trawl_api_ErrDeep)], narrowed := true }
def ExpandOwnsUptoSaid : Prop := expandOwnsUptoRow.holds Tryd.pinned (OpenSpec.upto expandOwnsSpec)

/-- 'trawllaw14.ExpandMakes', WHERE WHAT IT READS IS OF BULK AT MOST 1048576: true; the input reads as it did. -/
def expandMakesUptoRow : OpenClaim := { program := "ythddlhpndaffjaadoor", sum := "524ce3f05abf9c6e252c731f014f41bcb3ca0538e08b9e009052eae301691ede", func := "trawl/trawllaw14.ExpandMakes", spec := "expandMakes", inPlace := ["internal/reflectlite.TypeOf"], unfollowed := true, recurses := true, named := ["trawl/api.ErrTree", "trawl/api.ErrDeep", "trawl/api.ErrTooBig", "trawl/api.ErrBracket", "trawl/api.ErrParen", "trawl/api.ErrBrace", "trawl/api.ErrCount", "trawl/api.ErrRange", "trawl/api.ErrClass", "trawl/api.ErrCollate", "trawl/api.ErrEscape", "trawl/api.ErrRepeat", "trawl/api.ErrNest", "trawl/api.ErrLong", "trawl/api.ErrArgument", "trawl/api.ErrNoMatch", "trawl/api.ErrImage", "trawl/api.ErrMany", "trawl/api.ErrOption", "trawl/api.ErrCommand", "trawl/api.ErrClosed"], loops := true, apart := false, laid := [("trawl/api.ErrBracket", laid_trawl_api_ErrBracket), ("trawl/api.ErrParen", laid_trawl_api_ErrParen), ("trawl/api.ErrBrace", laid_trawl_api_ErrBrace), ("trawl/api.ErrCount", laid_trawl_api_ErrCount), ("trawl/api.ErrRange", laid_trawl_api_ErrRange), ("trawl/api.ErrClass", laid_trawl_api_ErrClass), ("trawl/api.ErrCollate", laid_trawl_api_ErrCollate), ("trawl/api.ErrEscape", laid_trawl_api_ErrEscape), ("trawl/api.ErrRepeat", laid_trawl_api_ErrRepeat), ("trawl/api.ErrTooBig", laid_trawl_api_ErrTooBig), ("trawl/api.ErrNest", laid_trawl_api_ErrNest), ("trawl/api.ErrLong", laid_trawl_api_ErrLong), ("trawl/api.ErrTree", laid_trawl_api_ErrTree), ("trawl/api.ErrDeep", laid_trawl_api_ErrDeep), ("trawl/api.ErrArgument", laid_trawl_api_ErrArgument), ("trawl/api.ErrNoMatch", laid_trawl_api_ErrNoMatch), ("trawl/api.ErrImage", laid_trawl_api_ErrImage), ("trawl/api.ErrMany", laid_trawl_api_ErrMany), ("trawl/api.ErrOption", laid_trawl_api_ErrOption), ("trawl/api.ErrCommand", laid_trawl_api_ErrCommand), ("trawl/api.ErrClosed", laid_trawl_api_ErrClosed)], narrowed := true }
def ExpandMakesUptoSaid : Prop := expandMakesUptoRow.holds Tryd.pinned (OpenSpec.upto expandMakesSpec)

/-- 'trawllaw09.ImageEncodes', WHERE WHAT IT READS IS OF BULK AT MOST 1048576: true; the input reads as it did. -/
def imageEncodesUptoRow : OpenClaim := { program := "ythddlhpndaffjaadoor", sum := "524ce3f05abf9c6e252c731f014f41bcb3ca0538e08b9e009052eae301691ede", func := "trawl/trawllaw09.ImageEncodes", spec := "imageEncodes", inPlace := ["internal/reflectlite.TypeOf"], unfollowed := true, recurses := true, named := ["trawl/api.ErrTree", "trawl/api.ErrDeep", "trawl/api.ErrTooBig", "trawl/api.ErrImage", "trawl/api.ErrBracket", "trawl/api.ErrParen", "trawl/api.ErrBrace", "trawl/api.ErrCount", "trawl/api.ErrRange", "trawl/api.ErrClass", "trawl/api.ErrCollate", "trawl/api.ErrEscape", "trawl/api.ErrRepeat", "trawl/api.ErrNest", "trawl/api.ErrLong", "trawl/api.ErrArgument", "trawl/api.ErrNoMatch", "trawl/api.ErrMany", "trawl/api.ErrOption", "trawl/api.ErrCommand", "trawl/api.ErrClosed"], loops := true, apart := false, laid := [("trawl/api.ErrBracket", laid_trawl_api_ErrBracket), ("trawl/api.ErrParen", laid_trawl_api_ErrParen), ("trawl/api.ErrBrace", laid_trawl_api_ErrBrace), ("trawl/api.ErrCount", laid_trawl_api_ErrCount), ("trawl/api.ErrRange", laid_trawl_api_ErrRange), ("trawl/api.ErrClass", laid_trawl_api_ErrClass), ("trawl/api.ErrCollate", laid_trawl_api_ErrCollate), ("trawl/api.ErrEscape", laid_trawl_api_ErrEscape), ("trawl/api.ErrRepeat", laid_trawl_api_ErrRepeat), ("trawl/api.ErrTooBig", laid_trawl_api_ErrTooBig), ("trawl/api.ErrNest", laid_trawl_api_ErrNest), ("trawl/api.ErrLong", laid_trawl_api_ErrLong), ("trawl/api.ErrTree", laid_trawl_api_ErrTree), ("trawl/api.ErrDeep", laid_trawl_api_ErrDeep), ("trawl/api.ErrArgument", laid_trawl_api_ErrArgument), ("trawl/api.ErrNoMatch", laid_trawl_api_ErrNoMatch), ("trawl/api.ErrImage", laid_trawl_api_ErrImage), ("trawl/api.ErrMany", laid_trawl_api_ErrMany), ("trawl/api.ErrOption", laid_trawl_api_ErrOption), ("trawl/api.ErrCommand", laid_trawl_api_ErrCommand), ("trawl/api.ErrClosed", laid_trawl_api_ErrClosed)], narrowed := true }
def ImageEncodesUptoSaid : Prop := imageEncodesUptoRow.holds Tryd.pinned (OpenSpec.upto imageEncodesSpec)

/-- 'trawllaw09.ImageDecodes', WHERE WHAT IT READS IS OF BULK AT MOST 1048576: true; the input reads as it did. -/
def imageDecodesUptoRow : OpenClaim := { program := "ythddlhpndaffjaadoor", sum := "524ce3f05abf9c6e252c731f014f41bcb3ca0538e08b9e009052eae301691ede", func := "trawl/trawllaw09.ImageDecodes", spec := "imageDecodes", inPlace := ["internal/reflectlite.TypeOf"], unfollowed := true, recurses := true, named := ["trawl/api.ErrTree", "trawl/api.ErrDeep", "trawl/api.ErrTooBig", "trawl/api.ErrImage", "trawl/api.ErrBracket", "trawl/api.ErrParen", "trawl/api.ErrBrace", "trawl/api.ErrCount", "trawl/api.ErrRange", "trawl/api.ErrClass", "trawl/api.ErrCollate", "trawl/api.ErrEscape", "trawl/api.ErrRepeat", "trawl/api.ErrNest", "trawl/api.ErrLong", "trawl/api.ErrArgument", "trawl/api.ErrNoMatch", "trawl/api.ErrMany", "trawl/api.ErrOption", "trawl/api.ErrCommand", "trawl/api.ErrClosed"], apart := false, laid := [("trawl/api.ErrBracket", laid_trawl_api_ErrBracket), ("trawl/api.ErrParen", laid_trawl_api_ErrParen), ("trawl/api.ErrBrace", laid_trawl_api_ErrBrace), ("trawl/api.ErrCount", laid_trawl_api_ErrCount), ("trawl/api.ErrRange", laid_trawl_api_ErrRange), ("trawl/api.ErrClass", laid_trawl_api_ErrClass), ("trawl/api.ErrCollate", laid_trawl_api_ErrCollate), ("trawl/api.ErrEscape", laid_trawl_api_ErrEscape), ("trawl/api.ErrRepeat", laid_trawl_api_ErrRepeat), ("trawl/api.ErrTooBig", laid_trawl_api_ErrTooBig), ("trawl/api.ErrNest", laid_trawl_api_ErrNest), ("trawl/api.ErrLong", laid_trawl_api_ErrLong), ("trawl/api.ErrTree", laid_trawl_api_ErrTree), ("trawl/api.ErrDeep", laid_trawl_api_ErrDeep), ("trawl/api.ErrArgument", laid_trawl_api_ErrArgument), ("trawl/api.ErrNoMatch", laid_trawl_api_ErrNoMatch), ("trawl/api.ErrImage", laid_trawl_api_ErrImage), ("trawl/api.ErrMany", laid_trawl_api_ErrMany), ("trawl/api.ErrOption", laid_trawl_api_ErrOption), ("trawl/api.ErrCommand", laid_trawl_api_ErrCommand), ("trawl/api.ErrClosed", laid_trawl_api_ErrClosed)], narrowed := true }
def ImageDecodesUptoSaid : Prop := imageDecodesUptoRow.holds Tryd.pinned (OpenSpec.upto imageDecodesSpec)

/-- 'trawllaw09.ImageReads', WHERE WHAT IT READS IS OF BULK AT MOST 1048576: true; the input reads as it did. -/
def imageReadsUptoRow : OpenClaim := { program := "ythddlhpndaffjaadoor", sum := "524ce3f05abf9c6e252c731f014f41bcb3ca0538e08b9e009052eae301691ede", func := "trawl/trawllaw09.ImageReads", spec := "imageReads", inPlace := ["internal/reflectlite.TypeOf"], unfollowed := true, recurses := true, named := ["trawl/api.ErrTree", "trawl/api.ErrDeep", "trawl/api.ErrTooBig", "trawl/api.ErrImage", "trawl/api.ErrBracket", "trawl/api.ErrParen", "trawl/api.ErrBrace", "trawl/api.ErrCount", "trawl/api.ErrRange", "trawl/api.ErrClass", "trawl/api.ErrCollate", "trawl/api.ErrEscape", "trawl/api.ErrRepeat", "trawl/api.ErrNest", "trawl/api.ErrLong", "trawl/api.ErrArgument", "trawl/api.ErrNoMatch", "trawl/api.ErrMany", "trawl/api.ErrOption", "trawl/api.ErrCommand", "trawl/api.ErrClosed"], apart := false, laid := [("trawl/api.ErrBracket", laid_trawl_api_ErrBracket), ("trawl/api.ErrParen", laid_trawl_api_ErrParen), ("trawl/api.ErrBrace", laid_trawl_api_ErrBrace), ("trawl/api.ErrCount", laid_trawl_api_ErrCount), ("trawl/api.ErrRange", laid_trawl_api_ErrRange), ("trawl/api.ErrClass", laid_trawl_api_ErrClass), ("trawl/api.ErrCollate", laid_trawl_api_ErrCollate), ("trawl/api.ErrEscape", laid_trawl_api_ErrEscape), ("trawl/api.ErrRepeat", laid_trawl_api_ErrRepeat), ("trawl/api.ErrTooBig", laid_trawl_api_ErrTooBig), ("trawl/api.ErrNest", laid_trawl_api_ErrNest), ("trawl/api.ErrLong", laid_trawl_api_ErrLong), ("trawl/api.ErrTree", laid_trawl_api_ErrTree), ("trawl/api.ErrDeep", laid_trawl_api_ErrDeep), ("trawl/api.ErrArgument", laid_trawl_api_ErrArgument), ("trawl/api.ErrNoMatch", laid_trawl_api_ErrNoMatch), ("trawl/api.ErrImage", laid_trawl_api_ErrImage), ("trawl/api.ErrMany", laid_trawl_api_ErrMany), ("trawl/api.ErrOption", laid_trawl_api_ErrOption), ("trawl/api.ErrCommand", laid_trawl_api_ErrCommand), ("trawl/api.ErrClosed", laid_trawl_api_ErrClosed)], narrowed := true }
def ImageReadsUptoSaid : Prop := imageReadsUptoRow.holds Tryd.pinned (OpenSpec.upto imageReadsSpec)

/-- 'trawllaw14.ExpandSizes', WHERE WHAT IT READS IS OF BULK AT MOST 1048576: true; the input reads as it did. -/
def expandSizesUptoRow : OpenClaim := { program := "ythddlhpndaffjaadoor", sum := "524ce3f05abf9c6e252c731f014f41bcb3ca0538e08b9e009052eae301691ede", func := "trawl/trawllaw14.ExpandSizes", spec := "expandSizes", inPlace := ["internal/reflectlite.TypeOf"], unfollowed := true, recurses := true, named := ["trawl/api.ErrTree", "trawl/api.ErrDeep", "trawl/api.ErrTooBig", "trawl/api.ErrBracket", "trawl/api.ErrParen", "trawl/api.ErrBrace", "trawl/api.ErrCount", "trawl/api.ErrRange", "trawl/api.ErrClass", "trawl/api.ErrCollate", "trawl/api.ErrEscape", "trawl/api.ErrRepeat", "trawl/api.ErrNest", "trawl/api.ErrLong", "trawl/api.ErrArgument", "trawl/api.ErrNoMatch", "trawl/api.ErrImage", "trawl/api.ErrMany", "trawl/api.ErrOption", "trawl/api.ErrCommand", "trawl/api.ErrClosed"], loops := true, apart := false, laid := [("trawl/api.ErrBracket", laid_trawl_api_ErrBracket), ("trawl/api.ErrParen", laid_trawl_api_ErrParen), ("trawl/api.ErrBrace", laid_trawl_api_ErrBrace), ("trawl/api.ErrCount", laid_trawl_api_ErrCount), ("trawl/api.ErrRange", laid_trawl_api_ErrRange), ("trawl/api.ErrClass", laid_trawl_api_ErrClass), ("trawl/api.ErrCollate", laid_trawl_api_ErrCollate), ("trawl/api.ErrEscape", laid_trawl_api_ErrEscape), ("trawl/api.ErrRepeat", laid_trawl_api_ErrRepeat), ("trawl/api.ErrTooBig", laid_trawl_api_ErrTooBig), ("trawl/api.ErrNest", laid_trawl_api_ErrNest), ("trawl/api.ErrLong", laid_trawl_api_ErrLong), ("trawl/api.ErrTree", laid_trawl_api_ErrTree), ("trawl/api.ErrDeep", laid_trawl_api_ErrDeep), ("trawl/api.ErrArgument", laid_trawl_api_ErrArgument), ("trawl/api.ErrNoMatch", laid_trawl_api_ErrNoMatch), ("trawl/api.ErrImage", laid_trawl_api_ErrImage), ("trawl/api.ErrMany", laid_trawl_api_ErrMany), ("trawl/api.ErrOption", laid_trawl_api_ErrOption), ("trawl/api.ErrCommand", laid_trawl_api_ErrCommand), ("trawl/api.ErrClosed", laid_trawl_api_ErrClosed)], narrowed := true }
def ExpandSizesUptoSaid : Prop := expandSizesUptoRow.holds Tryd.pinned (OpenSpec.upto expandSizesSpec)

/-- 'trawllaw09.ImageBack', WHERE WHAT IT READS IS OF BULK AT MOST 1048576: true; the input reads as it did. -/
def imageBackUptoRow : OpenClaim := { program := "ythddlhpndaffjaadoor", sum := "524ce3f05abf9c6e252c731f014f41bcb3ca0538e08b9e009052eae301691ede", func := "trawl/trawllaw09.ImageBack", spec := "imageBack", inPlace := ["internal/reflectlite.TypeOf"], unfollowed := true, recurses := true, named := ["trawl/api.ErrTree", "trawl/api.ErrDeep", "trawl/api.ErrTooBig", "trawl/api.ErrImage", "trawl/api.ErrBracket", "trawl/api.ErrParen", "trawl/api.ErrBrace", "trawl/api.ErrCount", "trawl/api.ErrRange", "trawl/api.ErrClass", "trawl/api.ErrCollate", "trawl/api.ErrEscape", "trawl/api.ErrRepeat", "trawl/api.ErrNest", "trawl/api.ErrLong", "trawl/api.ErrArgument", "trawl/api.ErrNoMatch", "trawl/api.ErrMany", "trawl/api.ErrOption", "trawl/api.ErrCommand", "trawl/api.ErrClosed"], loops := true, apart := false, laid := [("trawl/api.ErrBracket", laid_trawl_api_ErrBracket), ("trawl/api.ErrParen", laid_trawl_api_ErrParen), ("trawl/api.ErrBrace", laid_trawl_api_ErrBrace), ("trawl/api.ErrCount", laid_trawl_api_ErrCount), ("trawl/api.ErrRange", laid_trawl_api_ErrRange), ("trawl/api.ErrClass", laid_trawl_api_ErrClass), ("trawl/api.ErrCollate", laid_trawl_api_ErrCollate), ("trawl/api.ErrEscape", laid_trawl_api_ErrEscape), ("trawl/api.ErrRepeat", laid_trawl_api_ErrRepeat), ("trawl/api.ErrTooBig", laid_trawl_api_ErrTooBig), ("trawl/api.ErrNest", laid_trawl_api_ErrNest), ("trawl/api.ErrLong", laid_trawl_api_ErrLong), ("trawl/api.ErrTree", laid_trawl_api_ErrTree), ("trawl/api.ErrDeep", laid_trawl_api_ErrDeep), ("trawl/api.ErrArgument", laid_trawl_api_ErrArgument), ("trawl/api.ErrNoMatch", laid_trawl_api_ErrNoMatch), ("trawl/api.ErrImage", laid_trawl_api_ErrImage), ("trawl/api.ErrMany", laid_trawl_api_ErrMany), ("trawl/api.ErrOption", laid_trawl_api_ErrOption), ("trawl/api.ErrCommand", laid_trawl_api_ErrCommand), ("trawl/api.ErrClosed", laid_trawl_api_ErrClosed)], narrowed := true }
def ImageBackUptoSaid : Prop := imageBackUptoRow.holds Tryd.pinned (OpenSpec.upto imageBackSpec)

/-- 'trawllaw12.RankChecks', WHERE WHAT IT READS IS OF BULK AT MOST 1048576: true; the input reads as it did. -/
def rankChecksUptoRow : OpenClaim := { program := "ythddlhpndaffjaadoor", sum := "524ce3f05abf9c6e252c731f014f41bcb3ca0538e08b9e009052eae301691ede", func := "trawl/trawllaw12.RankChecks", spec := "rankChecks", recurses := true, named := ["trawl/api.ErrTree", "trawl/api.ErrDeep", "trawl/api.ErrTooBig"], loops := true, apart := false, laid := [("trawl/api.ErrTooBig", laid_trawl_api_ErrTooBig), ("trawl/api.ErrTree", laid_trawl_api_ErrTree), ("trawl/api.ErrDeep", laid_trawl_api_ErrDeep)], narrowed := true }
def RankChecksUptoSaid : Prop := rankChecksUptoRow.holds Tryd.pinned (OpenSpec.upto rankChecksSpec)

/-- 'trawllaw12.RankCompares', WHERE WHAT IT READS IS OF BULK AT MOST 1048576: true; the input reads as it did. -/
def rankComparesUptoRow : OpenClaim := { program := "ythddlhpndaffjaadoor", sum := "524ce3f05abf9c6e252c731f014f41bcb3ca0538e08b9e009052eae301691ede", func := "trawl/trawllaw12.RankCompares", spec := "rankCompares", recurses := true, named := ["trawl/api.ErrTree", "trawl/api.ErrDeep", "trawl/api.ErrTooBig"], loops := true, apart := false, laid := [("trawl/api.ErrTooBig", laid_trawl_api_ErrTooBig), ("trawl/api.ErrTree", laid_trawl_api_ErrTree), ("trawl/api.ErrDeep", laid_trawl_api_ErrDeep)], narrowed := true }
def RankComparesUptoSaid : Prop := rankComparesUptoRow.holds Tryd.pinned (OpenSpec.upto rankComparesSpec)

/-- 'trawllaw12.RankOrders', WHERE WHAT IT READS IS OF BULK AT MOST 1048576: true; the input reads as it did. -/
def rankOrdersUptoRow : OpenClaim := { program := "ythddlhpndaffjaadoor", sum := "524ce3f05abf9c6e252c731f014f41bcb3ca0538e08b9e009052eae301691ede", func := "trawl/trawllaw12.RankOrders", spec := "rankOrders", recurses := true, named := ["trawl/api.ErrTree", "trawl/api.ErrDeep", "trawl/api.ErrTooBig"], loops := true, apart := false, laid := [("trawl/api.ErrTooBig", laid_trawl_api_ErrTooBig), ("trawl/api.ErrTree", laid_trawl_api_ErrTree), ("trawl/api.ErrDeep", laid_trawl_api_ErrDeep)], narrowed := true }
def RankOrdersUptoSaid : Prop := rankOrdersUptoRow.holds Tryd.pinned (OpenSpec.upto rankOrdersSpec)

/-- 'trawllaw12.RankNests', WHERE WHAT IT READS IS OF BULK AT MOST 1048576: true; the input reads as it did. -/
def rankNestsUptoRow : OpenClaim := { program := "ythddlhpndaffjaadoor", sum := "524ce3f05abf9c6e252c731f014f41bcb3ca0538e08b9e009052eae301691ede", func := "trawl/trawllaw12.RankNests", spec := "rankNests", recurses := true, named := ["trawl/api.ErrTree", "trawl/api.ErrDeep", "trawl/api.ErrTooBig"], loops := true, apart := false, laid := [("trawl/api.ErrTooBig", laid_trawl_api_ErrTooBig), ("trawl/api.ErrTree", laid_trawl_api_ErrTree), ("trawl/api.ErrDeep", laid_trawl_api_ErrDeep)], narrowed := true }
def RankNestsUptoSaid : Prop := rankNestsUptoRow.holds Tryd.pinned (OpenSpec.upto rankNestsSpec)

end Rows
end Go.Proofs.YthddlhpndaffjaaDoor
