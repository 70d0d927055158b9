/-
  DERIVED. GIVEN WITH THE SEED: THE CARDS: each row of YtgfknlkpdiejgaaDoorRows.lean that lists a variable, with what it lists TIED to the program's text (the seventh form; the later family's looks); each row that meets fmt, with fmt's text TOLD by the authors' own Lean function (tested against real Go, not proved from fmt's source: count such statements apart). THE CARD IS WHAT COUNTS. Prove the row's statement (the work); the ties are given (YtgfknlkpdiejgaaDoorTie.lean); close each card by the builder's one call (the guide's Derived/Test/ToyasCard.lean, 'card_holds'). Laid BY PROGRAM, IN A SANDBOX (cutbox-door.mjs). By AI agents, Wed Nov 11 2026. No macro, syntax, notation, axiom, sorry.
-/
import Derived.Test.YtgfknlkpdiejgaaDoorRows
import GoSem.ClaimSeven
namespace Go.Proofs.YtgfknlkpdiejgaaDoor
namespace Rows

/-- THE TIED CARD OF 'trawllaw22.RankedWithin'. -/
def rankedWithinCard : Claim7 := { stood := { row := rankedWithinRow, standIns := [], harness := (true, "f11e97473de994cc9256cdbb575ed62a19f71f2d075ca49518a58643943cae4f"), looks := false }, kinds := [], alts := [], laidByText := true, laidKinds := [.data, .sentinel, .sentinel, .sentinel, .sentinel], laidTests := true, laidLooks := .later }
def RankedWithinCardSaid : Prop := Claim7.holds Tryd.pinned (.plain (OpenSpec.ofChange rankedWithinSpec)) rankedWithinCard

/-- THE SECOND FORM's CARD OF 'trawllaw22.RankedWithin'. -/
def rankedWithinUptoCard : Claim7 := { stood := { row := rankedWithinUptoRow, standIns := [], harness := (true, "f11e97473de994cc9256cdbb575ed62a19f71f2d075ca49518a58643943cae4f"), looks := false }, kinds := [], alts := [], laidByText := true, laidKinds := [.data, .sentinel, .sentinel, .sentinel, .sentinel], laidTests := true, laidLooks := .later }
def RankedWithinUptoCardSaid : Prop := Claim7.holds Tryd.pinned (.plain (OpenSpec.upto rankedWithinSpec)) rankedWithinUptoCard
end Rows
end Go.Proofs.YtgfknlkpdiejgaaDoor
