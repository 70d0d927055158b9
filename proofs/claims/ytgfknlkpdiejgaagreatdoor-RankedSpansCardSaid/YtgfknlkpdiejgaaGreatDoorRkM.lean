/- From the rows' listed variables to the walks' facts, layer 22: the library's table and the 21 error values. Condition: these variables hold what the row lists. -/
import Derived.Test.YtgfknlkpdiejgaaGreatDoorRows
import Derived.Test.YtgfknlkpdiejgaaGreatDoorFst
import Derived.Test.YtgfknlkpdiejgaaGreatDoorErrs
import Derived.LaidLaws
import Derived.LaidHandle
import Derived.Lib.LaidTab
namespace Go.Proofs.YtgfknlkpdiejgaaGreatDoor
open Go Go.RowKit Go.Extern.Stop Go.Stop Go.Extern

set_option maxRecDepth 100000 in
theorem tab_head {l : List (String × DataW Unit)} {W : World} (h : laidMet Tryz.prog (("math/bits.deBruijn64tab", Lib.tabData .u8 (Lib.deBruijn64tab.map fun n => ((n : Nat) : Int))) :: l) W) : Tab W := by
  have h' := Lib.tabIs_of_head (g := 21) (n := 64) (e := 5) (t := 139) (by kernel_rfl) (by kernel_rfl) Tryz.underlying139 Tryz.underlying5 (by kernel_rfl) (by kernel_rfl) h
  intro i hi
  have hl : Lib.deBruijn64tab.length = 64 := by decide
  have := h'.cell (g := 21) (by kernel_rfl) i (by rw [List.length_map, hl]; exact hi)
  rw [this, List.getD_eq_getElem?_getD, List.getElem?_map, List.getElem?_eq_getElem (by omega), List.getD_eq_getElem?_getD, List.getElem?_eq_getElem (by omega)]
  rfl
theorem ranks_laid {W : World} (h : laidMetH Tryz.prog Rows.rankedFindsRow.laid W) : ∃ A, ErrsAt W A ∧ Tab W := by
  have h' : laidMet Tryz.prog (("math/bits.deBruijn64tab", Lib.tabData .u8 (Lib.deBruijn64tab.map fun n => ((n : Nat) : Int))) :: errLaid) W := h
  obtain ⟨A, h1⟩ := errs_at h'.tail
  exact ⟨A, h1, tab_head h'⟩
theorem ranks_laidS {W : World} (h : laidMetH Tryz.prog Rows.rankedSpansRow.laid W) : ∃ A, ErrsAt W A ∧ Tab W := ranks_laid h
end Go.Proofs.YtgfknlkpdiejgaaGreatDoor
