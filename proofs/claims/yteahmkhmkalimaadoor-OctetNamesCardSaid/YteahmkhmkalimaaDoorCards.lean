/-
  DERIVED. GIVEN WITH THE SEED: THE CARDS: each row of YteahmkhmkalimaaDoorRows.lean that lists a variable, with what it lists TIED to the program's text (the seventh form; the later family's looks); each row that meets fmt, with fmt's text TOLD by the authors' own Lean function (tested against real Go, not proved from fmt's source: count such statements apart). THE CARD IS WHAT COUNTS. Prove the row's statement (the work); the ties are given (YteahmkhmkalimaaDoorTie.lean); close each card by the builder's one call (the guide's Derived/Test/ToyasCard.lean, 'card_holds'). Laid BY PROGRAM, IN A SANDBOX (cutbox-door.mjs). By AI agents, Wed Nov 11 2026. No macro, syntax, notation, axiom, sorry.
-/
import Derived.Test.YteahmkhmkalimaaDoorRows
import GoSem.ClaimSeven
namespace Go.Proofs.YteahmkhmkalimaaDoor
namespace Rows

/-- THE TIED CARD OF 'trawllaw01.OctetMakes'. -/
def octetMakesCard : Claim7 := { stood := { row := octetMakesRow, standIns := [], harness := (true, "8de7f165fb54bb773d301c1951b686dce59d55dc11cd3c1dbf5f683d3d181d86"), looks := true }, kinds := [], alts := [], laidByText := true, laidKinds := [.data], laidTests := true, laidLooks := .later }
def OctetMakesCardSaid : Prop := Claim7.holds Tryd.pinned (.plain (OpenSpec.ofChange octetMakesSpec)) octetMakesCard

/-- THE TIED CARD OF 'trawllaw01.OctetNames'. -/
def octetNamesCard : Claim7 := { stood := { row := octetNamesRow, standIns := [], harness := (true, "8de7f165fb54bb773d301c1951b686dce59d55dc11cd3c1dbf5f683d3d181d86"), looks := true }, kinds := [], alts := [], laidByText := true, laidKinds := [.sentinel, .sentinel, .sentinel, .sentinel, .sentinel, .sentinel, .sentinel, .sentinel, .sentinel, .sentinel, .sentinel, .sentinel, .sentinel, .sentinel, .sentinel, .sentinel, .sentinel, .sentinel, .sentinel, .sentinel, .sentinel], laidTests := true, laidLooks := .later }
def OctetNamesCardSaid : Prop := Claim7.holds Tryd.pinned (.plain (OpenSpec.ofChange octetNamesSpec)) octetNamesCard

/-- THE TIED CARD OF 'trawllaw02.ClassNamed'. -/
def classNamedCard : Claim7 := { stood := { row := classNamedRow, standIns := [], harness := (true, "8de7f165fb54bb773d301c1951b686dce59d55dc11cd3c1dbf5f683d3d181d86"), looks := true }, kinds := [], alts := [], laidByText := true, laidKinds := [.sentinel, .sentinel, .sentinel, .sentinel, .sentinel, .sentinel, .sentinel, .sentinel, .sentinel, .sentinel, .sentinel, .sentinel, .sentinel, .sentinel, .sentinel, .sentinel, .sentinel, .sentinel, .sentinel, .sentinel, .sentinel], laidTests := true, laidLooks := .later }
def ClassNamedCardSaid : Prop := Claim7.holds Tryd.pinned (.plain (OpenSpec.ofChange classNamedSpec)) classNamedCard

/-- THE TIED CARD OF 'trawllaw02.ClassNames'. -/
def classNamesCard : Claim7 := { stood := { row := classNamesRow, standIns := [], harness := (true, "8de7f165fb54bb773d301c1951b686dce59d55dc11cd3c1dbf5f683d3d181d86"), looks := true }, kinds := [], alts := [], laidByText := true, laidKinds := [.sentinel, .sentinel, .sentinel, .sentinel, .sentinel, .sentinel, .sentinel, .sentinel, .sentinel, .sentinel, .sentinel, .sentinel, .sentinel, .sentinel, .sentinel, .sentinel, .sentinel, .sentinel, .sentinel, .sentinel, .sentinel], laidTests := true, laidLooks := .later }
def ClassNamesCardSaid : Prop := Claim7.holds Tryd.pinned (.plain (OpenSpec.ofChange classNamesSpec)) classNamesCard

/-- THE TIED CARD OF 'trawllaw02.ClassParts'. -/
def classPartsCard : Claim7 := { stood := { row := classPartsRow, standIns := [], harness := (true, "8de7f165fb54bb773d301c1951b686dce59d55dc11cd3c1dbf5f683d3d181d86"), looks := true }, kinds := [], alts := [], laidByText := true, laidKinds := [.sentinel, .sentinel, .sentinel, .sentinel, .sentinel, .sentinel, .sentinel, .sentinel, .sentinel, .sentinel, .sentinel, .sentinel, .sentinel, .sentinel, .sentinel, .sentinel, .sentinel, .sentinel, .sentinel, .sentinel, .sentinel], laidTests := true, laidLooks := .later }
def ClassPartsCardSaid : Prop := Claim7.holds Tryd.pinned (.plain (OpenSpec.ofChange classPartsSpec)) classPartsCard

/-- THE TIED CARD OF 'trawllaw02.ClassFolds'. -/
def classFoldsCard : Claim7 := { stood := { row := classFoldsRow, standIns := [], harness := (true, "8de7f165fb54bb773d301c1951b686dce59d55dc11cd3c1dbf5f683d3d181d86"), looks := true }, kinds := [], alts := [], laidByText := true, laidKinds := [.sentinel, .sentinel, .sentinel, .sentinel, .sentinel, .sentinel, .sentinel, .sentinel, .sentinel, .sentinel, .sentinel, .sentinel, .sentinel, .sentinel, .sentinel, .sentinel, .sentinel, .sentinel, .sentinel, .sentinel, .sentinel], laidTests := true, laidLooks := .later }
def ClassFoldsCardSaid : Prop := Claim7.holds Tryd.pinned (.plain (OpenSpec.ofChange classFoldsSpec)) classFoldsCard

/-- THE TIED CARD OF 'trawllaw02.ClassAlgebra'. -/
def classAlgebraCard : Claim7 := { stood := { row := classAlgebraRow, standIns := [], harness := (true, "8de7f165fb54bb773d301c1951b686dce59d55dc11cd3c1dbf5f683d3d181d86"), looks := true }, kinds := [], alts := [], laidByText := true, laidKinds := [.sentinel, .sentinel, .sentinel, .sentinel, .sentinel, .sentinel, .sentinel, .sentinel, .sentinel, .sentinel, .sentinel, .sentinel, .sentinel, .sentinel, .sentinel, .sentinel, .sentinel, .sentinel, .sentinel, .sentinel, .sentinel], laidTests := true, laidLooks := .later }
def ClassAlgebraCardSaid : Prop := Claim7.holds Tryd.pinned (.plain (OpenSpec.ofChange classAlgebraSpec)) classAlgebraCard

/-- THE SECOND FORM's CARD OF 'trawllaw01.OctetMakes'. -/
def octetMakesUptoCard : Claim7 := { stood := { row := octetMakesUptoRow, standIns := [], harness := (true, "8de7f165fb54bb773d301c1951b686dce59d55dc11cd3c1dbf5f683d3d181d86"), looks := true }, kinds := [], alts := [], laidByText := true, laidKinds := [.data], laidTests := true, laidLooks := .later }
def OctetMakesUptoCardSaid : Prop := Claim7.holds Tryd.pinned (.plain (OpenSpec.upto octetMakesSpec)) octetMakesUptoCard

/-- THE SECOND FORM's CARD OF 'trawllaw01.OctetNames'. -/
def octetNamesUptoCard : Claim7 := { stood := { row := octetNamesUptoRow, standIns := [], harness := (true, "8de7f165fb54bb773d301c1951b686dce59d55dc11cd3c1dbf5f683d3d181d86"), looks := true }, kinds := [], alts := [], laidByText := true, laidKinds := [.sentinel, .sentinel, .sentinel, .sentinel, .sentinel, .sentinel, .sentinel, .sentinel, .sentinel, .sentinel, .sentinel, .sentinel, .sentinel, .sentinel, .sentinel, .sentinel, .sentinel, .sentinel, .sentinel, .sentinel, .sentinel], laidTests := true, laidLooks := .later }
def OctetNamesUptoCardSaid : Prop := Claim7.holds Tryd.pinned (.plain (OpenSpec.upto octetNamesSpec)) octetNamesUptoCard

/-- THE SECOND FORM's CARD OF 'trawllaw02.ClassNamed'. -/
def classNamedUptoCard : Claim7 := { stood := { row := classNamedUptoRow, standIns := [], harness := (true, "8de7f165fb54bb773d301c1951b686dce59d55dc11cd3c1dbf5f683d3d181d86"), looks := true }, kinds := [], alts := [], laidByText := true, laidKinds := [.sentinel, .sentinel, .sentinel, .sentinel, .sentinel, .sentinel, .sentinel, .sentinel, .sentinel, .sentinel, .sentinel, .sentinel, .sentinel, .sentinel, .sentinel, .sentinel, .sentinel, .sentinel, .sentinel, .sentinel, .sentinel], laidTests := true, laidLooks := .later }
def ClassNamedUptoCardSaid : Prop := Claim7.holds Tryd.pinned (.plain (OpenSpec.upto classNamedSpec)) classNamedUptoCard

/-- THE SECOND FORM's CARD OF 'trawllaw02.ClassNames'. -/
def classNamesUptoCard : Claim7 := { stood := { row := classNamesUptoRow, standIns := [], harness := (true, "8de7f165fb54bb773d301c1951b686dce59d55dc11cd3c1dbf5f683d3d181d86"), looks := true }, kinds := [], alts := [], laidByText := true, laidKinds := [.sentinel, .sentinel, .sentinel, .sentinel, .sentinel, .sentinel, .sentinel, .sentinel, .sentinel, .sentinel, .sentinel, .sentinel, .sentinel, .sentinel, .sentinel, .sentinel, .sentinel, .sentinel, .sentinel, .sentinel, .sentinel], laidTests := true, laidLooks := .later }
def ClassNamesUptoCardSaid : Prop := Claim7.holds Tryd.pinned (.plain (OpenSpec.upto classNamesSpec)) classNamesUptoCard

/-- THE SECOND FORM's CARD OF 'trawllaw02.ClassParts'. -/
def classPartsUptoCard : Claim7 := { stood := { row := classPartsUptoRow, standIns := [], harness := (true, "8de7f165fb54bb773d301c1951b686dce59d55dc11cd3c1dbf5f683d3d181d86"), looks := true }, kinds := [], alts := [], laidByText := true, laidKinds := [.sentinel, .sentinel, .sentinel, .sentinel, .sentinel, .sentinel, .sentinel, .sentinel, .sentinel, .sentinel, .sentinel, .sentinel, .sentinel, .sentinel, .sentinel, .sentinel, .sentinel, .sentinel, .sentinel, .sentinel, .sentinel], laidTests := true, laidLooks := .later }
def ClassPartsUptoCardSaid : Prop := Claim7.holds Tryd.pinned (.plain (OpenSpec.upto classPartsSpec)) classPartsUptoCard

/-- THE SECOND FORM's CARD OF 'trawllaw02.ClassFolds'. -/
def classFoldsUptoCard : Claim7 := { stood := { row := classFoldsUptoRow, standIns := [], harness := (true, "8de7f165fb54bb773d301c1951b686dce59d55dc11cd3c1dbf5f683d3d181d86"), looks := true }, kinds := [], alts := [], laidByText := true, laidKinds := [.sentinel, .sentinel, .sentinel, .sentinel, .sentinel, .sentinel, .sentinel, .sentinel, .sentinel, .sentinel, .sentinel, .sentinel, .sentinel, .sentinel, .sentinel, .sentinel, .sentinel, .sentinel, .sentinel, .sentinel, .sentinel], laidTests := true, laidLooks := .later }
def ClassFoldsUptoCardSaid : Prop := Claim7.holds Tryd.pinned (.plain (OpenSpec.upto classFoldsSpec)) classFoldsUptoCard

/-- THE SECOND FORM's CARD OF 'trawllaw02.ClassAlgebra'. -/
def classAlgebraUptoCard : Claim7 := { stood := { row := classAlgebraUptoRow, standIns := [], harness := (true, "8de7f165fb54bb773d301c1951b686dce59d55dc11cd3c1dbf5f683d3d181d86"), looks := true }, kinds := [], alts := [], laidByText := true, laidKinds := [.sentinel, .sentinel, .sentinel, .sentinel, .sentinel, .sentinel, .sentinel, .sentinel, .sentinel, .sentinel, .sentinel, .sentinel, .sentinel, .sentinel, .sentinel, .sentinel, .sentinel, .sentinel, .sentinel, .sentinel, .sentinel], laidTests := true, laidLooks := .later }
def ClassAlgebraUptoCardSaid : Prop := Claim7.holds Tryd.pinned (.plain (OpenSpec.upto classAlgebraSpec)) classAlgebraUptoCard
end Rows
end Go.Proofs.YteahmkhmkalimaaDoor
