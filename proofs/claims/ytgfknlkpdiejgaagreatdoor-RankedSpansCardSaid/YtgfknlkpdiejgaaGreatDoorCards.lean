/-
  DERIVED. GIVEN WITH THE SEED: THE CARDS: each row of YtgfknlkpdiejgaaGreatDoorRows.lean that lists a variable, with what it lists TIED to the program's text (the seventh form; the later family's looks); each row that meets fmt, with fmt's text TOLD by the authors' own Lean function (tested against real Go, not proved from fmt's source: count such statements apart). THE CARD IS WHAT COUNTS. Prove the row's statement (the work); the ties are given (YtgfknlkpdiejgaaGreatDoorTie.lean); close each card by the builder's one call (the guide's Derived/Test/ToyasCard.lean, 'card_holds'). Laid BY PROGRAM, IN A SANDBOX (cutbox-door.mjs). By AI agents, Wed Nov 11 2026. No macro, syntax, notation, axiom, sorry.
-/
import Derived.Test.YtgfknlkpdiejgaaGreatDoorRows
import GoSem.ClaimSeven
namespace Go.Proofs.YtgfknlkpdiejgaaGreatDoor
namespace Rows

/-- THE TIED CARD OF 'trawllaw22.RankedFinds'. -/
def rankedFindsCard : Claim7 := { stood := { row := rankedFindsRow, standIns := [], harness := (true, "c66448ce81cf25d90fb817e3540ac64da3bc463af2baa18c76516f71d6d0249c"), looks := true }, kinds := [], alts := [], laidByText := true, laidKinds := [.data, .sentinel, .sentinel, .sentinel, .sentinel, .sentinel, .sentinel, .sentinel, .sentinel, .sentinel, .sentinel, .sentinel, .sentinel, .sentinel, .sentinel, .sentinel, .sentinel, .sentinel, .sentinel, .sentinel, .sentinel, .sentinel], laidTests := true, laidLooks := .later }
def RankedFindsCardSaid : Prop := Claim7.holds Tryz.pinned (.plain (OpenSpec.ofChange rankedFindsSpec)) rankedFindsCard

/-- THE TIED CARD OF 'trawllaw22.RankedSpans'. -/
def rankedSpansCard : Claim7 := { stood := { row := rankedSpansRow, standIns := [], harness := (true, "c66448ce81cf25d90fb817e3540ac64da3bc463af2baa18c76516f71d6d0249c"), looks := true }, kinds := [], alts := [], laidByText := true, laidKinds := [.data, .sentinel, .sentinel, .sentinel, .sentinel, .sentinel, .sentinel, .sentinel, .sentinel, .sentinel, .sentinel, .sentinel, .sentinel, .sentinel, .sentinel, .sentinel, .sentinel, .sentinel, .sentinel, .sentinel, .sentinel, .sentinel], laidTests := true, laidLooks := .later }
def RankedSpansCardSaid : Prop := Claim7.holds Tryz.pinned (.plain (OpenSpec.ofChange rankedSpansSpec)) rankedSpansCard

/-- THE SECOND FORM's CARD OF 'trawllaw22.RankedFinds'. -/
def rankedFindsUptoCard : Claim7 := { stood := { row := rankedFindsUptoRow, standIns := [], harness := (true, "c66448ce81cf25d90fb817e3540ac64da3bc463af2baa18c76516f71d6d0249c"), looks := true }, kinds := [], alts := [], laidByText := true, laidKinds := [.data, .sentinel, .sentinel, .sentinel, .sentinel, .sentinel, .sentinel, .sentinel, .sentinel, .sentinel, .sentinel, .sentinel, .sentinel, .sentinel, .sentinel, .sentinel, .sentinel, .sentinel, .sentinel, .sentinel, .sentinel, .sentinel], laidTests := true, laidLooks := .later }
def RankedFindsUptoCardSaid : Prop := Claim7.holds Tryz.pinned (.plain (OpenSpec.upto rankedFindsSpec)) rankedFindsUptoCard

/-- THE SECOND FORM's CARD OF 'trawllaw22.RankedSpans'. -/
def rankedSpansUptoCard : Claim7 := { stood := { row := rankedSpansUptoRow, standIns := [], harness := (true, "c66448ce81cf25d90fb817e3540ac64da3bc463af2baa18c76516f71d6d0249c"), looks := true }, kinds := [], alts := [], laidByText := true, laidKinds := [.data, .sentinel, .sentinel, .sentinel, .sentinel, .sentinel, .sentinel, .sentinel, .sentinel, .sentinel, .sentinel, .sentinel, .sentinel, .sentinel, .sentinel, .sentinel, .sentinel, .sentinel, .sentinel, .sentinel, .sentinel, .sentinel], laidTests := true, laidLooks := .later }
def RankedSpansUptoCardSaid : Prop := Claim7.holds Tryz.pinned (.plain (OpenSpec.upto rankedSpansSpec)) rankedSpansUptoCard
end Rows
end Go.Proofs.YtgfknlkpdiejgaaGreatDoor
