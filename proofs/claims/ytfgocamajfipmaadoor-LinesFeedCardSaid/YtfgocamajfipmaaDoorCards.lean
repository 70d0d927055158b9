/-
  DERIVED. GIVEN WITH THE SEED: THE CARDS: each row of YtfgocamajfipmaaDoorRows.lean that lists a variable, with what it lists TIED to the program's text (the seventh form; the later family's looks); each row that meets fmt, with fmt's text TOLD by the authors' own Lean function (tested against real Go, not proved from fmt's source: count such statements apart). THE CARD IS WHAT COUNTS. Prove the row's statement (the work); the ties are given (YtfgocamajfipmaaDoorTie.lean); close each card by the builder's one call (the guide's Derived/Test/ToyasCard.lean, 'card_holds'). Laid BY PROGRAM, IN A SANDBOX (cutbox-door.mjs). By AI agents, Wed Nov 11 2026. No macro, syntax, notation, axiom, sorry.
-/
import Derived.Test.YtfgocamajfipmaaDoorRows
import GoSem.ClaimSeven
namespace Go.Proofs.YtfgocamajfipmaaDoor
namespace Rows

/-- THE TIED CARD OF 'trawllaw27.LinesPieces'. -/
def linesPiecesCard : Claim7 := { stood := { row := linesPiecesRow, standIns := [], harness := (true, "634ba691e0730754efb4b214011891d864d8235ee2e9b7e16ae89748b4990841"), looks := true }, kinds := [], alts := [], laidByText := true, laidKinds := [.sentinel], laidTests := true, laidLooks := .later }
def LinesPiecesCardSaid : Prop := Claim7.holds Tryd.pinned (.plain (OpenSpec.ofChange linesPiecesSpec)) linesPiecesCard

/-- THE TIED CARD OF 'trawllaw27.LinesApart'. -/
def linesApartCard : Claim7 := { stood := { row := linesApartRow, standIns := [], harness := (true, "634ba691e0730754efb4b214011891d864d8235ee2e9b7e16ae89748b4990841"), looks := true }, kinds := [], alts := [], laidByText := true, laidKinds := [.sentinel], laidTests := true, laidLooks := .later }
def LinesApartCardSaid : Prop := Claim7.holds Tryd.pinned (.plain (OpenSpec.ofChange linesApartSpec)) linesApartCard

/-- THE TIED CARD OF 'trawllaw27.LinesFeed'. -/
def linesFeedCard : Claim7 := { stood := { row := linesFeedRow, standIns := [], harness := (true, "634ba691e0730754efb4b214011891d864d8235ee2e9b7e16ae89748b4990841"), looks := true }, kinds := [], alts := [], laidByText := true, laidKinds := [.sentinel, .sentinel, .sentinel, .sentinel, .sentinel, .sentinel, .sentinel, .sentinel, .sentinel, .sentinel, .sentinel, .sentinel, .sentinel, .sentinel, .sentinel, .sentinel, .sentinel, .sentinel, .sentinel, .sentinel, .sentinel], laidTests := true, laidLooks := .later }
def LinesFeedCardSaid : Prop := Claim7.holds Tryd.pinned (.plain (OpenSpec.ofChange linesFeedSpec)) linesFeedCard

/-- THE SECOND FORM's CARD OF 'trawllaw27.LinesPieces'. -/
def linesPiecesUptoCard : Claim7 := { stood := { row := linesPiecesUptoRow, standIns := [], harness := (true, "634ba691e0730754efb4b214011891d864d8235ee2e9b7e16ae89748b4990841"), looks := true }, kinds := [], alts := [], laidByText := true, laidKinds := [.sentinel], laidTests := true, laidLooks := .later }
def LinesPiecesUptoCardSaid : Prop := Claim7.holds Tryd.pinned (.plain (OpenSpec.upto linesPiecesSpec)) linesPiecesUptoCard

/-- THE SECOND FORM's CARD OF 'trawllaw27.LinesApart'. -/
def linesApartUptoCard : Claim7 := { stood := { row := linesApartUptoRow, standIns := [], harness := (true, "634ba691e0730754efb4b214011891d864d8235ee2e9b7e16ae89748b4990841"), looks := true }, kinds := [], alts := [], laidByText := true, laidKinds := [.sentinel], laidTests := true, laidLooks := .later }
def LinesApartUptoCardSaid : Prop := Claim7.holds Tryd.pinned (.plain (OpenSpec.upto linesApartSpec)) linesApartUptoCard

/-- THE SECOND FORM's CARD OF 'trawllaw27.LinesFeed'. -/
def linesFeedUptoCard : Claim7 := { stood := { row := linesFeedUptoRow, standIns := [], harness := (true, "634ba691e0730754efb4b214011891d864d8235ee2e9b7e16ae89748b4990841"), looks := true }, kinds := [], alts := [], laidByText := true, laidKinds := [.sentinel, .sentinel, .sentinel, .sentinel, .sentinel, .sentinel, .sentinel, .sentinel, .sentinel, .sentinel, .sentinel, .sentinel, .sentinel, .sentinel, .sentinel, .sentinel, .sentinel, .sentinel, .sentinel, .sentinel, .sentinel], laidTests := true, laidLooks := .later }
def LinesFeedUptoCardSaid : Prop := Claim7.holds Tryd.pinned (.plain (OpenSpec.upto linesFeedSpec)) linesFeedUptoCard
end Rows
end Go.Proofs.YtfgocamajfipmaaDoor
