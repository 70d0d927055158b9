/-
  DERIVED. GIVEN WITH THE SEED: THE CARDS: each row of YtkcgbdoplhgbmaaDoorRows.lean that lists a variable, with what it lists TIED to the program's text (the seventh form; the later family's looks); each row that meets fmt, with fmt's text TOLD by the authors' own Lean function (tested against real Go, not proved from fmt's source: count such statements apart). THE CARD IS WHAT COUNTS. Prove the row's statement (the work); the ties are given (YtkcgbdoplhgbmaaDoorTie.lean); close each card by the builder's one call (the guide's Derived/Test/ToyasCard.lean, 'card_holds'). Laid BY PROGRAM, IN A SANDBOX (cutbox-door.mjs). By AI agents, Wed Nov 11 2026. No macro, syntax, notation, axiom, sorry.
-/
import Derived.Test.YtkcgbdoplhgbmaaDoorRows
import GoSem.ClaimSeven
namespace Go.Proofs.YtkcgbdoplhgbmaaDoor
namespace Rows

/-- THE TIED CARD OF 'trawllaw15.NormalMakes'. -/
def normalMakesCard : Claim7 := { stood := { row := normalMakesRow, standIns := [], harness := (true, "9fed8d13d22cc1eb58bbd26f92b13faa9bc38e4f97b7ac1ef433d0e19b0f027a"), looks := true }, kinds := [], alts := [], laidByText := true, laidKinds := [.sentinel, .sentinel, .sentinel, .sentinel, .sentinel, .sentinel, .sentinel, .sentinel, .sentinel, .sentinel, .sentinel, .sentinel, .sentinel, .sentinel, .sentinel, .sentinel, .sentinel, .sentinel, .sentinel, .sentinel, .sentinel], laidTests := true, laidLooks := .later }
def NormalMakesCardSaid : Prop := Claim7.holds Tryd.pinned (.plain (OpenSpec.ofChange normalMakesSpec)) normalMakesCard

/-- THE TIED CARD OF 'trawllaw15.NormalLess'. -/
def normalLessCard : Claim7 := { stood := { row := normalLessRow, standIns := [], harness := (true, "9fed8d13d22cc1eb58bbd26f92b13faa9bc38e4f97b7ac1ef433d0e19b0f027a"), looks := true }, kinds := [], alts := [], laidByText := true, laidKinds := [.sentinel, .sentinel, .sentinel, .sentinel, .sentinel, .sentinel, .sentinel, .sentinel, .sentinel, .sentinel, .sentinel, .sentinel, .sentinel, .sentinel, .sentinel, .sentinel, .sentinel, .sentinel, .sentinel, .sentinel, .sentinel], laidTests := true, laidLooks := .later }
def NormalLessCardSaid : Prop := Claim7.holds Tryd.pinned (.plain (OpenSpec.ofChange normalLessSpec)) normalLessCard

/-- THE TIED CARD OF 'trawllaw28.OptionParses'. -/
def optionParsesCard : Claim7 := { stood := { row := optionParsesRow, standIns := [], harness := (true, "9fed8d13d22cc1eb58bbd26f92b13faa9bc38e4f97b7ac1ef433d0e19b0f027a"), looks := true }, kinds := [], alts := [], laidByText := true, laidKinds := [.data, .handle, .sentinel, .sentinel, .sentinel, .sentinel, .sentinel, .sentinel, .sentinel, .sentinel, .sentinel, .sentinel, .sentinel, .sentinel, .sentinel, .sentinel, .sentinel, .sentinel, .sentinel, .sentinel, .sentinel, .sentinel, .sentinel, .pinned], laidTests := true, laidLooks := .later }
def OptionParsesCardSaid : Prop := Claim7.holds Tryd.pinned (.plain (OpenSpec.ofChange optionParsesSpec)) optionParsesCard

/-- THE TIED CARD OF 'trawllaw03.FaultTells'. -/
def faultTellsCard : Claim7 := { stood := { row := faultTellsRow, standIns := [], harness := (true, "9fed8d13d22cc1eb58bbd26f92b13faa9bc38e4f97b7ac1ef433d0e19b0f027a"), looks := true }, kinds := [], alts := [], laidByText := true, laidKinds := [.data, .data, .data, .handle, .sentinel, .sentinel, .sentinel, .sentinel, .sentinel, .sentinel, .sentinel, .sentinel, .sentinel, .sentinel, .sentinel, .sentinel, .sentinel, .sentinel, .sentinel, .sentinel, .sentinel, .sentinel, .sentinel, .sentinel, .sentinel], laidTests := true, laidLooks := .later }
def FaultTellsCardSaid : Prop := Claim7.holds Tryd.pinned (.plain (OpenSpec.ofChange faultTellsSpec)) faultTellsCard

/-- THE TIED CARD OF 'trawllaw03.FaultWords'. -/
def faultWordsCard : Claim7 := { stood := { row := faultWordsRow, standIns := [], harness := (true, "9fed8d13d22cc1eb58bbd26f92b13faa9bc38e4f97b7ac1ef433d0e19b0f027a"), looks := true }, kinds := [], alts := [], laidByText := true, laidKinds := [.data, .data, .data, .handle, .sentinel, .sentinel, .sentinel, .sentinel, .sentinel, .sentinel, .sentinel, .sentinel, .sentinel, .sentinel, .sentinel, .sentinel, .sentinel, .sentinel, .sentinel, .sentinel, .sentinel, .sentinel, .sentinel, .sentinel, .sentinel], laidTests := true, laidLooks := .later }
def FaultWordsCardSaid : Prop := Claim7.holds Tryd.pinned (.plain (OpenSpec.ofChange faultWordsSpec)) faultWordsCard

/-- THE TIED CARD OF 'trawllaw03.FaultWraps'. -/
def faultWrapsCard : Claim7 := { stood := { row := faultWrapsRow, standIns := [], harness := (true, "9fed8d13d22cc1eb58bbd26f92b13faa9bc38e4f97b7ac1ef433d0e19b0f027a"), looks := true }, kinds := [], alts := [], laidByText := true, laidKinds := [.data, .data, .data, .handle, .sentinel, .sentinel, .sentinel, .sentinel, .sentinel, .sentinel, .sentinel, .sentinel, .sentinel, .sentinel, .sentinel, .sentinel, .sentinel, .sentinel, .sentinel, .sentinel, .sentinel, .sentinel, .sentinel, .sentinel, .sentinel], laidTests := true, laidLooks := .later }
def FaultWrapsCardSaid : Prop := Claim7.holds Tryd.pinned (.plain (OpenSpec.ofChange faultWrapsSpec)) faultWrapsCard

/-- THE TIED CARD OF 'trawllaw03.FaultHolds'. -/
def faultHoldsCard : Claim7 := { stood := { row := faultHoldsRow, standIns := [], harness := (true, "9fed8d13d22cc1eb58bbd26f92b13faa9bc38e4f97b7ac1ef433d0e19b0f027a"), looks := true }, kinds := [], alts := [], laidByText := true, laidKinds := [.data, .data, .data, .handle, .sentinel, .sentinel, .sentinel, .sentinel, .sentinel, .sentinel, .sentinel, .sentinel, .sentinel, .sentinel, .sentinel, .sentinel, .sentinel, .sentinel, .sentinel, .sentinel, .sentinel, .sentinel, .sentinel, .sentinel, .sentinel], laidTests := true, laidLooks := .later }
def FaultHoldsCardSaid : Prop := Claim7.holds Tryd.pinned (.plain (OpenSpec.ofChange faultHoldsSpec)) faultHoldsCard

/-- THE TIED CARD OF 'trawllaw28.OptionJoins'. -/
def optionJoinsCard : Claim7 := { stood := { row := optionJoinsRow, standIns := [], harness := (true, "9fed8d13d22cc1eb58bbd26f92b13faa9bc38e4f97b7ac1ef433d0e19b0f027a"), looks := true }, kinds := [], alts := [], laidByText := true, laidKinds := [.data, .handle, .sentinel, .sentinel, .sentinel, .sentinel, .sentinel, .sentinel, .sentinel, .sentinel, .sentinel, .sentinel, .sentinel, .sentinel, .sentinel, .sentinel, .sentinel, .sentinel, .sentinel, .sentinel, .sentinel, .sentinel, .sentinel, .pinned], laidTests := true, laidLooks := .later }
def OptionJoinsCardSaid : Prop := Claim7.holds Tryd.pinned (.plain (OpenSpec.ofChange optionJoinsSpec)) optionJoinsCard

/-- THE TIED CARD OF 'trawllaw28.OptionWords'. -/
def optionWordsCard : Claim7 := { stood := { row := optionWordsRow, standIns := [], harness := (true, "9fed8d13d22cc1eb58bbd26f92b13faa9bc38e4f97b7ac1ef433d0e19b0f027a"), looks := true }, kinds := [], alts := [], laidByText := true, laidKinds := [.data, .data, .data, .data, .handle, .sentinel, .sentinel, .sentinel, .sentinel, .sentinel, .sentinel, .sentinel, .sentinel, .sentinel, .sentinel, .sentinel, .sentinel, .sentinel, .sentinel, .sentinel, .sentinel, .sentinel, .sentinel, .sentinel, .sentinel, .sentinel, .pinned], laidTests := true, laidLooks := .later }
def OptionWordsCardSaid : Prop := Claim7.holds Tryd.pinned (.plain (OpenSpec.ofChange optionWordsSpec)) optionWordsCard

/-- THE TIED CARD OF 'trawllaw28.OptionBack'. -/
def optionBackCard : Claim7 := { stood := { row := optionBackRow, standIns := [], harness := (true, "9fed8d13d22cc1eb58bbd26f92b13faa9bc38e4f97b7ac1ef433d0e19b0f027a"), looks := true }, kinds := [], alts := [], laidByText := true, laidKinds := [.data, .data, .data, .data, .handle, .sentinel, .sentinel, .sentinel, .sentinel, .sentinel, .sentinel, .sentinel, .sentinel, .sentinel, .sentinel, .sentinel, .sentinel, .sentinel, .sentinel, .sentinel, .sentinel, .sentinel, .sentinel, .sentinel, .sentinel, .sentinel, .pinned], laidTests := true, laidLooks := .later }
def OptionBackCardSaid : Prop := Claim7.holds Tryd.pinned (.plain (OpenSpec.ofChange optionBackSpec)) optionBackCard

/-- THE SECOND FORM's CARD OF 'trawllaw15.NormalMakes'. -/
def normalMakesUptoCard : Claim7 := { stood := { row := normalMakesUptoRow, standIns := [], harness := (true, "9fed8d13d22cc1eb58bbd26f92b13faa9bc38e4f97b7ac1ef433d0e19b0f027a"), looks := true }, kinds := [], alts := [], laidByText := true, laidKinds := [.sentinel, .sentinel, .sentinel, .sentinel, .sentinel, .sentinel, .sentinel, .sentinel, .sentinel, .sentinel, .sentinel, .sentinel, .sentinel, .sentinel, .sentinel, .sentinel, .sentinel, .sentinel, .sentinel, .sentinel, .sentinel], laidTests := true, laidLooks := .later }
def NormalMakesUptoCardSaid : Prop := Claim7.holds Tryd.pinned (.plain (OpenSpec.upto normalMakesSpec)) normalMakesUptoCard

/-- THE SECOND FORM's CARD OF 'trawllaw15.NormalLess'. -/
def normalLessUptoCard : Claim7 := { stood := { row := normalLessUptoRow, standIns := [], harness := (true, "9fed8d13d22cc1eb58bbd26f92b13faa9bc38e4f97b7ac1ef433d0e19b0f027a"), looks := true }, kinds := [], alts := [], laidByText := true, laidKinds := [.sentinel, .sentinel, .sentinel, .sentinel, .sentinel, .sentinel, .sentinel, .sentinel, .sentinel, .sentinel, .sentinel, .sentinel, .sentinel, .sentinel, .sentinel, .sentinel, .sentinel, .sentinel, .sentinel, .sentinel, .sentinel], laidTests := true, laidLooks := .later }
def NormalLessUptoCardSaid : Prop := Claim7.holds Tryd.pinned (.plain (OpenSpec.upto normalLessSpec)) normalLessUptoCard

/-- THE SECOND FORM's CARD OF 'trawllaw28.OptionParses'. -/
def optionParsesUptoCard : Claim7 := { stood := { row := optionParsesUptoRow, standIns := [], harness := (true, "9fed8d13d22cc1eb58bbd26f92b13faa9bc38e4f97b7ac1ef433d0e19b0f027a"), looks := true }, kinds := [], alts := [], laidByText := true, laidKinds := [.data, .handle, .sentinel, .sentinel, .sentinel, .sentinel, .sentinel, .sentinel, .sentinel, .sentinel, .sentinel, .sentinel, .sentinel, .sentinel, .sentinel, .sentinel, .sentinel, .sentinel, .sentinel, .sentinel, .sentinel, .sentinel, .sentinel, .pinned], laidTests := true, laidLooks := .later }
def OptionParsesUptoCardSaid : Prop := Claim7.holds Tryd.pinned (.plain (OpenSpec.upto optionParsesSpec)) optionParsesUptoCard

/-- THE SECOND FORM's CARD OF 'trawllaw03.FaultTells'. -/
def faultTellsUptoCard : Claim7 := { stood := { row := faultTellsUptoRow, standIns := [], harness := (true, "9fed8d13d22cc1eb58bbd26f92b13faa9bc38e4f97b7ac1ef433d0e19b0f027a"), looks := true }, kinds := [], alts := [], laidByText := true, laidKinds := [.data, .data, .data, .handle, .sentinel, .sentinel, .sentinel, .sentinel, .sentinel, .sentinel, .sentinel, .sentinel, .sentinel, .sentinel, .sentinel, .sentinel, .sentinel, .sentinel, .sentinel, .sentinel, .sentinel, .sentinel, .sentinel, .sentinel, .sentinel], laidTests := true, laidLooks := .later }
def FaultTellsUptoCardSaid : Prop := Claim7.holds Tryd.pinned (.plain (OpenSpec.upto faultTellsSpec)) faultTellsUptoCard

/-- THE SECOND FORM's CARD OF 'trawllaw03.FaultWords'. -/
def faultWordsUptoCard : Claim7 := { stood := { row := faultWordsUptoRow, standIns := [], harness := (true, "9fed8d13d22cc1eb58bbd26f92b13faa9bc38e4f97b7ac1ef433d0e19b0f027a"), looks := true }, kinds := [], alts := [], laidByText := true, laidKinds := [.data, .data, .data, .handle, .sentinel, .sentinel, .sentinel, .sentinel, .sentinel, .sentinel, .sentinel, .sentinel, .sentinel, .sentinel, .sentinel, .sentinel, .sentinel, .sentinel, .sentinel, .sentinel, .sentinel, .sentinel, .sentinel, .sentinel, .sentinel], laidTests := true, laidLooks := .later }
def FaultWordsUptoCardSaid : Prop := Claim7.holds Tryd.pinned (.plain (OpenSpec.upto faultWordsSpec)) faultWordsUptoCard

/-- THE SECOND FORM's CARD OF 'trawllaw03.FaultWraps'. -/
def faultWrapsUptoCard : Claim7 := { stood := { row := faultWrapsUptoRow, standIns := [], harness := (true, "9fed8d13d22cc1eb58bbd26f92b13faa9bc38e4f97b7ac1ef433d0e19b0f027a"), looks := true }, kinds := [], alts := [], laidByText := true, laidKinds := [.data, .data, .data, .handle, .sentinel, .sentinel, .sentinel, .sentinel, .sentinel, .sentinel, .sentinel, .sentinel, .sentinel, .sentinel, .sentinel, .sentinel, .sentinel, .sentinel, .sentinel, .sentinel, .sentinel, .sentinel, .sentinel, .sentinel, .sentinel], laidTests := true, laidLooks := .later }
def FaultWrapsUptoCardSaid : Prop := Claim7.holds Tryd.pinned (.plain (OpenSpec.upto faultWrapsSpec)) faultWrapsUptoCard

/-- THE SECOND FORM's CARD OF 'trawllaw03.FaultHolds'. -/
def faultHoldsUptoCard : Claim7 := { stood := { row := faultHoldsUptoRow, standIns := [], harness := (true, "9fed8d13d22cc1eb58bbd26f92b13faa9bc38e4f97b7ac1ef433d0e19b0f027a"), looks := true }, kinds := [], alts := [], laidByText := true, laidKinds := [.data, .data, .data, .handle, .sentinel, .sentinel, .sentinel, .sentinel, .sentinel, .sentinel, .sentinel, .sentinel, .sentinel, .sentinel, .sentinel, .sentinel, .sentinel, .sentinel, .sentinel, .sentinel, .sentinel, .sentinel, .sentinel, .sentinel, .sentinel], laidTests := true, laidLooks := .later }
def FaultHoldsUptoCardSaid : Prop := Claim7.holds Tryd.pinned (.plain (OpenSpec.upto faultHoldsSpec)) faultHoldsUptoCard

/-- THE SECOND FORM's CARD OF 'trawllaw28.OptionJoins'. -/
def optionJoinsUptoCard : Claim7 := { stood := { row := optionJoinsUptoRow, standIns := [], harness := (true, "9fed8d13d22cc1eb58bbd26f92b13faa9bc38e4f97b7ac1ef433d0e19b0f027a"), looks := true }, kinds := [], alts := [], laidByText := true, laidKinds := [.data, .handle, .sentinel, .sentinel, .sentinel, .sentinel, .sentinel, .sentinel, .sentinel, .sentinel, .sentinel, .sentinel, .sentinel, .sentinel, .sentinel, .sentinel, .sentinel, .sentinel, .sentinel, .sentinel, .sentinel, .sentinel, .sentinel, .pinned], laidTests := true, laidLooks := .later }
def OptionJoinsUptoCardSaid : Prop := Claim7.holds Tryd.pinned (.plain (OpenSpec.upto optionJoinsSpec)) optionJoinsUptoCard

/-- THE SECOND FORM's CARD OF 'trawllaw28.OptionWords'. -/
def optionWordsUptoCard : Claim7 := { stood := { row := optionWordsUptoRow, standIns := [], harness := (true, "9fed8d13d22cc1eb58bbd26f92b13faa9bc38e4f97b7ac1ef433d0e19b0f027a"), looks := true }, kinds := [], alts := [], laidByText := true, laidKinds := [.data, .data, .data, .data, .handle, .sentinel, .sentinel, .sentinel, .sentinel, .sentinel, .sentinel, .sentinel, .sentinel, .sentinel, .sentinel, .sentinel, .sentinel, .sentinel, .sentinel, .sentinel, .sentinel, .sentinel, .sentinel, .sentinel, .sentinel, .sentinel, .pinned], laidTests := true, laidLooks := .later }
def OptionWordsUptoCardSaid : Prop := Claim7.holds Tryd.pinned (.plain (OpenSpec.upto optionWordsSpec)) optionWordsUptoCard

/-- THE SECOND FORM's CARD OF 'trawllaw28.OptionBack'. -/
def optionBackUptoCard : Claim7 := { stood := { row := optionBackUptoRow, standIns := [], harness := (true, "9fed8d13d22cc1eb58bbd26f92b13faa9bc38e4f97b7ac1ef433d0e19b0f027a"), looks := true }, kinds := [], alts := [], laidByText := true, laidKinds := [.data, .data, .data, .data, .handle, .sentinel, .sentinel, .sentinel, .sentinel, .sentinel, .sentinel, .sentinel, .sentinel, .sentinel, .sentinel, .sentinel, .sentinel, .sentinel, .sentinel, .sentinel, .sentinel, .sentinel, .sentinel, .sentinel, .sentinel, .sentinel, .pinned], laidTests := true, laidLooks := .later }
def OptionBackUptoCardSaid : Prop := Claim7.holds Tryd.pinned (.plain (OpenSpec.upto optionBackSpec)) optionBackUptoCard
end Rows
end Go.Proofs.YtkcgbdoplhgbmaaDoor
