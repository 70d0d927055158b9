/-
  DERIVED. GIVEN WITH THE SEED: THE CARDS: each row of YthddlhpndaffjaaDoorRows.lean that lists a variable, with what it lists TIED to the program's text (the seventh form; the later family's looks); each row that meets fmt, with fmt's text TOLD by the authors' own Lean function (tested against real Go, not proved from fmt's source: count such statements apart). THE CARD IS WHAT COUNTS. Prove the row's statement (the work); the ties are given (YthddlhpndaffjaaDoorTie.lean); close each card by the builder's one call (the guide's Derived/Test/ToyasCard.lean, 'card_holds'). Laid BY PROGRAM, IN A SANDBOX (cutbox-door.mjs). By AI agents, Wed Nov 11 2026. No macro, syntax, notation, axiom, sorry.
-/
import Derived.Test.YthddlhpndaffjaaDoorRows
import GoSem.ClaimSeven
namespace Go.Proofs.YthddlhpndaffjaaDoor
namespace Rows

/-- THE TIED CARD OF 'trawllaw14.ExpandOwns'. -/
def expandOwnsCard : Claim7 := { stood := { row := expandOwnsRow, standIns := [], harness := (true, "fec8c22bae13d5d07c3c94e35cef789ab3719d6e6fe88b86753aa67a27e2a845"), looks := true }, kinds := [], alts := [], laidByText := true, laidKinds := [.sentinel, .sentinel, .sentinel], laidTests := true, laidLooks := .later }
def ExpandOwnsCardSaid : Prop := Claim7.holds Tryd.pinned (.plain (OpenSpec.ofChange expandOwnsSpec)) expandOwnsCard

/-- THE TIED CARD OF 'trawllaw14.ExpandMakes'. -/
def expandMakesCard : Claim7 := { stood := { row := expandMakesRow, standIns := [], harness := (true, "fec8c22bae13d5d07c3c94e35cef789ab3719d6e6fe88b86753aa67a27e2a845"), looks := true }, kinds := [], alts := [], laidByText := true, laidKinds := [.sentinel, .sentinel, .sentinel, .sentinel, .sentinel, .sentinel, .sentinel, .sentinel, .sentinel, .sentinel, .sentinel, .sentinel, .sentinel, .sentinel, .sentinel, .sentinel, .sentinel, .sentinel, .sentinel, .sentinel, .sentinel], laidTests := true, laidLooks := .later }
def ExpandMakesCardSaid : Prop := Claim7.holds Tryd.pinned (.plain (OpenSpec.ofChange expandMakesSpec)) expandMakesCard

/-- THE TIED CARD OF 'trawllaw09.ImageEncodes'. -/
def imageEncodesCard : Claim7 := { stood := { row := imageEncodesRow, standIns := [], harness := (true, "fec8c22bae13d5d07c3c94e35cef789ab3719d6e6fe88b86753aa67a27e2a845"), looks := true }, kinds := [], alts := [], laidByText := true, laidKinds := [.sentinel, .sentinel, .sentinel, .sentinel, .sentinel, .sentinel, .sentinel, .sentinel, .sentinel, .sentinel, .sentinel, .sentinel, .sentinel, .sentinel, .sentinel, .sentinel, .sentinel, .sentinel, .sentinel, .sentinel, .sentinel], laidTests := true, laidLooks := .later }
def ImageEncodesCardSaid : Prop := Claim7.holds Tryd.pinned (.plain (OpenSpec.ofChange imageEncodesSpec)) imageEncodesCard

/-- THE TIED CARD OF 'trawllaw09.ImageDecodes'. -/
def imageDecodesCard : Claim7 := { stood := { row := imageDecodesRow, standIns := [], harness := (true, "fec8c22bae13d5d07c3c94e35cef789ab3719d6e6fe88b86753aa67a27e2a845"), looks := true }, kinds := [], alts := [], laidByText := true, laidKinds := [.sentinel, .sentinel, .sentinel, .sentinel, .sentinel, .sentinel, .sentinel, .sentinel, .sentinel, .sentinel, .sentinel, .sentinel, .sentinel, .sentinel, .sentinel, .sentinel, .sentinel, .sentinel, .sentinel, .sentinel, .sentinel], laidTests := true, laidLooks := .later }
def ImageDecodesCardSaid : Prop := Claim7.holds Tryd.pinned (.plain (OpenSpec.ofChange imageDecodesSpec)) imageDecodesCard

/-- THE TIED CARD OF 'trawllaw09.ImageReads'. -/
def imageReadsCard : Claim7 := { stood := { row := imageReadsRow, standIns := [], harness := (true, "fec8c22bae13d5d07c3c94e35cef789ab3719d6e6fe88b86753aa67a27e2a845"), looks := true }, kinds := [], alts := [], laidByText := true, laidKinds := [.sentinel, .sentinel, .sentinel, .sentinel, .sentinel, .sentinel, .sentinel, .sentinel, .sentinel, .sentinel, .sentinel, .sentinel, .sentinel, .sentinel, .sentinel, .sentinel, .sentinel, .sentinel, .sentinel, .sentinel, .sentinel], laidTests := true, laidLooks := .later }
def ImageReadsCardSaid : Prop := Claim7.holds Tryd.pinned (.plain (OpenSpec.ofChange imageReadsSpec)) imageReadsCard

/-- THE TIED CARD OF 'trawllaw14.ExpandSizes'. -/
def expandSizesCard : Claim7 := { stood := { row := expandSizesRow, standIns := [], harness := (true, "fec8c22bae13d5d07c3c94e35cef789ab3719d6e6fe88b86753aa67a27e2a845"), looks := true }, kinds := [], alts := [], laidByText := true, laidKinds := [.sentinel, .sentinel, .sentinel, .sentinel, .sentinel, .sentinel, .sentinel, .sentinel, .sentinel, .sentinel, .sentinel, .sentinel, .sentinel, .sentinel, .sentinel, .sentinel, .sentinel, .sentinel, .sentinel, .sentinel, .sentinel], laidTests := true, laidLooks := .later }
def ExpandSizesCardSaid : Prop := Claim7.holds Tryd.pinned (.plain (OpenSpec.ofChange expandSizesSpec)) expandSizesCard

/-- THE TIED CARD OF 'trawllaw09.ImageBack'. -/
def imageBackCard : Claim7 := { stood := { row := imageBackRow, standIns := [], harness := (true, "fec8c22bae13d5d07c3c94e35cef789ab3719d6e6fe88b86753aa67a27e2a845"), looks := true }, kinds := [], alts := [], laidByText := true, laidKinds := [.sentinel, .sentinel, .sentinel, .sentinel, .sentinel, .sentinel, .sentinel, .sentinel, .sentinel, .sentinel, .sentinel, .sentinel, .sentinel, .sentinel, .sentinel, .sentinel, .sentinel, .sentinel, .sentinel, .sentinel, .sentinel], laidTests := true, laidLooks := .later }
def ImageBackCardSaid : Prop := Claim7.holds Tryd.pinned (.plain (OpenSpec.ofChange imageBackSpec)) imageBackCard

/-- THE TIED CARD OF 'trawllaw12.RankChecks'. -/
def rankChecksCard : Claim7 := { stood := { row := rankChecksRow, standIns := [], harness := (true, "fec8c22bae13d5d07c3c94e35cef789ab3719d6e6fe88b86753aa67a27e2a845"), looks := true }, kinds := [], alts := [], laidByText := true, laidKinds := [.sentinel, .sentinel, .sentinel], laidTests := true, laidLooks := .later }
def RankChecksCardSaid : Prop := Claim7.holds Tryd.pinned (.plain (OpenSpec.ofChange rankChecksSpec)) rankChecksCard

/-- THE TIED CARD OF 'trawllaw12.RankCompares'. -/
def rankComparesCard : Claim7 := { stood := { row := rankComparesRow, standIns := [], harness := (true, "fec8c22bae13d5d07c3c94e35cef789ab3719d6e6fe88b86753aa67a27e2a845"), looks := true }, kinds := [], alts := [], laidByText := true, laidKinds := [.sentinel, .sentinel, .sentinel], laidTests := true, laidLooks := .later }
def RankComparesCardSaid : Prop := Claim7.holds Tryd.pinned (.plain (OpenSpec.ofChange rankComparesSpec)) rankComparesCard

/-- THE TIED CARD OF 'trawllaw12.RankOrders'. -/
def rankOrdersCard : Claim7 := { stood := { row := rankOrdersRow, standIns := [], harness := (true, "fec8c22bae13d5d07c3c94e35cef789ab3719d6e6fe88b86753aa67a27e2a845"), looks := true }, kinds := [], alts := [], laidByText := true, laidKinds := [.sentinel, .sentinel, .sentinel], laidTests := true, laidLooks := .later }
def RankOrdersCardSaid : Prop := Claim7.holds Tryd.pinned (.plain (OpenSpec.ofChange rankOrdersSpec)) rankOrdersCard

/-- THE TIED CARD OF 'trawllaw12.RankNests'. -/
def rankNestsCard : Claim7 := { stood := { row := rankNestsRow, standIns := [], harness := (true, "fec8c22bae13d5d07c3c94e35cef789ab3719d6e6fe88b86753aa67a27e2a845"), looks := true }, kinds := [], alts := [], laidByText := true, laidKinds := [.sentinel, .sentinel, .sentinel], laidTests := true, laidLooks := .later }
def RankNestsCardSaid : Prop := Claim7.holds Tryd.pinned (.plain (OpenSpec.ofChange rankNestsSpec)) rankNestsCard

/-- THE SECOND FORM's CARD OF 'trawllaw14.ExpandOwns'. -/
def expandOwnsUptoCard : Claim7 := { stood := { row := expandOwnsUptoRow, standIns := [], harness := (true, "fec8c22bae13d5d07c3c94e35cef789ab3719d6e6fe88b86753aa67a27e2a845"), looks := true }, kinds := [], alts := [], laidByText := true, laidKinds := [.sentinel, .sentinel, .sentinel], laidTests := true, laidLooks := .later }
def ExpandOwnsUptoCardSaid : Prop := Claim7.holds Tryd.pinned (.plain (OpenSpec.upto expandOwnsSpec)) expandOwnsUptoCard

/-- THE SECOND FORM's CARD OF 'trawllaw14.ExpandMakes'. -/
def expandMakesUptoCard : Claim7 := { stood := { row := expandMakesUptoRow, standIns := [], harness := (true, "fec8c22bae13d5d07c3c94e35cef789ab3719d6e6fe88b86753aa67a27e2a845"), looks := true }, kinds := [], alts := [], laidByText := true, laidKinds := [.sentinel, .sentinel, .sentinel, .sentinel, .sentinel, .sentinel, .sentinel, .sentinel, .sentinel, .sentinel, .sentinel, .sentinel, .sentinel, .sentinel, .sentinel, .sentinel, .sentinel, .sentinel, .sentinel, .sentinel, .sentinel], laidTests := true, laidLooks := .later }
def ExpandMakesUptoCardSaid : Prop := Claim7.holds Tryd.pinned (.plain (OpenSpec.upto expandMakesSpec)) expandMakesUptoCard

/-- THE SECOND FORM's CARD OF 'trawllaw09.ImageEncodes'. -/
def imageEncodesUptoCard : Claim7 := { stood := { row := imageEncodesUptoRow, standIns := [], harness := (true, "fec8c22bae13d5d07c3c94e35cef789ab3719d6e6fe88b86753aa67a27e2a845"), looks := true }, kinds := [], alts := [], laidByText := true, laidKinds := [.sentinel, .sentinel, .sentinel, .sentinel, .sentinel, .sentinel, .sentinel, .sentinel, .sentinel, .sentinel, .sentinel, .sentinel, .sentinel, .sentinel, .sentinel, .sentinel, .sentinel, .sentinel, .sentinel, .sentinel, .sentinel], laidTests := true, laidLooks := .later }
def ImageEncodesUptoCardSaid : Prop := Claim7.holds Tryd.pinned (.plain (OpenSpec.upto imageEncodesSpec)) imageEncodesUptoCard

/-- THE SECOND FORM's CARD OF 'trawllaw09.ImageDecodes'. -/
def imageDecodesUptoCard : Claim7 := { stood := { row := imageDecodesUptoRow, standIns := [], harness := (true, "fec8c22bae13d5d07c3c94e35cef789ab3719d6e6fe88b86753aa67a27e2a845"), looks := true }, kinds := [], alts := [], laidByText := true, laidKinds := [.sentinel, .sentinel, .sentinel, .sentinel, .sentinel, .sentinel, .sentinel, .sentinel, .sentinel, .sentinel, .sentinel, .sentinel, .sentinel, .sentinel, .sentinel, .sentinel, .sentinel, .sentinel, .sentinel, .sentinel, .sentinel], laidTests := true, laidLooks := .later }
def ImageDecodesUptoCardSaid : Prop := Claim7.holds Tryd.pinned (.plain (OpenSpec.upto imageDecodesSpec)) imageDecodesUptoCard

/-- THE SECOND FORM's CARD OF 'trawllaw09.ImageReads'. -/
def imageReadsUptoCard : Claim7 := { stood := { row := imageReadsUptoRow, standIns := [], harness := (true, "fec8c22bae13d5d07c3c94e35cef789ab3719d6e6fe88b86753aa67a27e2a845"), looks := true }, kinds := [], alts := [], laidByText := true, laidKinds := [.sentinel, .sentinel, .sentinel, .sentinel, .sentinel, .sentinel, .sentinel, .sentinel, .sentinel, .sentinel, .sentinel, .sentinel, .sentinel, .sentinel, .sentinel, .sentinel, .sentinel, .sentinel, .sentinel, .sentinel, .sentinel], laidTests := true, laidLooks := .later }
def ImageReadsUptoCardSaid : Prop := Claim7.holds Tryd.pinned (.plain (OpenSpec.upto imageReadsSpec)) imageReadsUptoCard

/-- THE SECOND FORM's CARD OF 'trawllaw14.ExpandSizes'. -/
def expandSizesUptoCard : Claim7 := { stood := { row := expandSizesUptoRow, standIns := [], harness := (true, "fec8c22bae13d5d07c3c94e35cef789ab3719d6e6fe88b86753aa67a27e2a845"), looks := true }, kinds := [], alts := [], laidByText := true, laidKinds := [.sentinel, .sentinel, .sentinel, .sentinel, .sentinel, .sentinel, .sentinel, .sentinel, .sentinel, .sentinel, .sentinel, .sentinel, .sentinel, .sentinel, .sentinel, .sentinel, .sentinel, .sentinel, .sentinel, .sentinel, .sentinel], laidTests := true, laidLooks := .later }
def ExpandSizesUptoCardSaid : Prop := Claim7.holds Tryd.pinned (.plain (OpenSpec.upto expandSizesSpec)) expandSizesUptoCard

/-- THE SECOND FORM's CARD OF 'trawllaw09.ImageBack'. -/
def imageBackUptoCard : Claim7 := { stood := { row := imageBackUptoRow, standIns := [], harness := (true, "fec8c22bae13d5d07c3c94e35cef789ab3719d6e6fe88b86753aa67a27e2a845"), looks := true }, kinds := [], alts := [], laidByText := true, laidKinds := [.sentinel, .sentinel, .sentinel, .sentinel, .sentinel, .sentinel, .sentinel, .sentinel, .sentinel, .sentinel, .sentinel, .sentinel, .sentinel, .sentinel, .sentinel, .sentinel, .sentinel, .sentinel, .sentinel, .sentinel, .sentinel], laidTests := true, laidLooks := .later }
def ImageBackUptoCardSaid : Prop := Claim7.holds Tryd.pinned (.plain (OpenSpec.upto imageBackSpec)) imageBackUptoCard

/-- THE SECOND FORM's CARD OF 'trawllaw12.RankChecks'. -/
def rankChecksUptoCard : Claim7 := { stood := { row := rankChecksUptoRow, standIns := [], harness := (true, "fec8c22bae13d5d07c3c94e35cef789ab3719d6e6fe88b86753aa67a27e2a845"), looks := true }, kinds := [], alts := [], laidByText := true, laidKinds := [.sentinel, .sentinel, .sentinel], laidTests := true, laidLooks := .later }
def RankChecksUptoCardSaid : Prop := Claim7.holds Tryd.pinned (.plain (OpenSpec.upto rankChecksSpec)) rankChecksUptoCard

/-- THE SECOND FORM's CARD OF 'trawllaw12.RankCompares'. -/
def rankComparesUptoCard : Claim7 := { stood := { row := rankComparesUptoRow, standIns := [], harness := (true, "fec8c22bae13d5d07c3c94e35cef789ab3719d6e6fe88b86753aa67a27e2a845"), looks := true }, kinds := [], alts := [], laidByText := true, laidKinds := [.sentinel, .sentinel, .sentinel], laidTests := true, laidLooks := .later }
def RankComparesUptoCardSaid : Prop := Claim7.holds Tryd.pinned (.plain (OpenSpec.upto rankComparesSpec)) rankComparesUptoCard

/-- THE SECOND FORM's CARD OF 'trawllaw12.RankOrders'. -/
def rankOrdersUptoCard : Claim7 := { stood := { row := rankOrdersUptoRow, standIns := [], harness := (true, "fec8c22bae13d5d07c3c94e35cef789ab3719d6e6fe88b86753aa67a27e2a845"), looks := true }, kinds := [], alts := [], laidByText := true, laidKinds := [.sentinel, .sentinel, .sentinel], laidTests := true, laidLooks := .later }
def RankOrdersUptoCardSaid : Prop := Claim7.holds Tryd.pinned (.plain (OpenSpec.upto rankOrdersSpec)) rankOrdersUptoCard

/-- THE SECOND FORM's CARD OF 'trawllaw12.RankNests'. -/
def rankNestsUptoCard : Claim7 := { stood := { row := rankNestsUptoRow, standIns := [], harness := (true, "fec8c22bae13d5d07c3c94e35cef789ab3719d6e6fe88b86753aa67a27e2a845"), looks := true }, kinds := [], alts := [], laidByText := true, laidKinds := [.sentinel, .sentinel, .sentinel], laidTests := true, laidLooks := .later }
def RankNestsUptoCardSaid : Prop := Claim7.holds Tryd.pinned (.plain (OpenSpec.upto rankNestsSpec)) rankNestsUptoCard
end Rows
end Go.Proofs.YthddlhpndaffjaaDoor
