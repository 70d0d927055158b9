/- Where the row lists the table of math/bits, the walk's fact holds. No condition. -/
import Derived.Test.YteahmkhmkalimaaDoorFst
import Derived.Lib.LaidTab
namespace Go.Proofs.YteahmkhmkalimaaDoor
open Go.RowKit

set_option maxRecDepth 100000 in
theorem tab_at {W : World} (h : laidMet Tryd.prog [("math/bits.deBruijn64tab", Lib.tabData .u8 (Lib.deBruijn64tab.map fun n => ((n : Nat) : Int)))] W) : Tab W := by
  have h' := Lib.tabIs_of_head (g := 21) (n := 64) (e := 5) (t := 71) (by kernel_rfl) (by kernel_rfl) Tryd.underlying71 Tryd.underlying5 (by kernel_rfl) (by kernel_rfl) h
  intro i hi
  have hl : Lib.deBruijn64tab.length = 64 := by decide
  have := h'.cell (g := 21) (by kernel_rfl) i (by rw [List.length_map, hl]; exact hi)
  rw [this, List.getD_eq_getElem?_getD, List.getElem?_map, List.getElem?_eq_getElem (by omega), List.getD_eq_getElem?_getD, List.getElem?_eq_getElem (by omega)]
  rfl

end Go.Proofs.YteahmkhmkalimaaDoor
