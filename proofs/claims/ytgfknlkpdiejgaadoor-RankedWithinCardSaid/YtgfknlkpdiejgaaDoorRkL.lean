/- From the rows' listed variables to the walks' facts, layer 22: the library's table and four error values. Condition: these variables hold what the row lists. -/
import Derived.Test.YtgfknlkpdiejgaaDoorRows
import Derived.Test.YtgfknlkpdiejgaaDoorFst
import Derived.Test.YtgfknlkpdiejgaaDoorErr3
import Derived.LaidLaws
import Derived.LaidHandle
import Derived.Lib.LaidTab
namespace Go.Proofs.YtgfknlkpdiejgaaDoor
open Go Go.RowKit Go.Extern.Stop Go.Stop Go.Extern

set_option maxRecDepth 100000 in
theorem tab_head {l : List (String × DataW Unit)} {W : World} (h : laidMet Tryd.prog (("math/bits.deBruijn64tab", Lib.tabData .u8 (Lib.deBruijn64tab.map fun n => ((n : Nat) : Int))) :: l) W) : Tab W := by
  have h' := Lib.tabIs_of_head (g := 4) (n := 64) (e := 5) (t := 88) (by kernel_rfl) (by kernel_rfl) Tryd.underlying88 Tryd.underlying5 (by kernel_rfl) (by kernel_rfl) h
  intro i hi
  have hl : Lib.deBruijn64tab.length = 64 := by decide
  have := h'.cell (g := 4) (by kernel_rfl) i (by rw [List.length_map, hl]; exact hi)
  rw [this, List.getD_eq_getElem?_getD, List.getElem?_map, List.getElem?_eq_getElem (by omega), List.getD_eq_getElem?_getD, List.getElem?_eq_getElem (by omega)]
  rfl
def err4List : List (String × Nat × List UInt8) := [9, 12, 13, 14].map fun i => (errNames.getD i "", if i = 9 then 2 else if i = 12 then 0 else if i = 13 then 1 else 3, errTexts.getD i [])
def err4Laid : List (String × DataW Unit) := err4List.map fun x => (x.1, errD x.2.2)
theorem errs4_at {W : World} (h : laidMet Tryd.prog err4Laid W) : ∃ A, Err3 W A ∧ W.cell? ⟨3, 0, none⟩ = some (errV (A 14)) := by
  obtain ⟨ps, hv, hnd, hrows⟩ := h
  obtain ⟨al, hl, hi, _, hn⟩ := laid_many err4List ps (by
    have hall : err4List.all (fun x => decide (Tryd.prog.globalNamed x.1 = some x.2.1 ∧ (Tryd.prog.globals[x.2.1]?).map (·.type) = some 33)) = true := by kernel_rfl
    intro x hx
    exact of_decide_eq_true (List.all_eq_true.1 hall x hx)) hv hnd hrows
  have hl4 : al.length = 4 := by rw [hl]; rfl
  obtain ⟨a0, a1, a2, a3, rfl⟩ : ∃ a0 a1 a2 a3, al = [a0, a1, a2, a3] := by
    match al, hl4 with
    | [a0, a1, a2, a3], _ => exact ⟨a0, a1, a2, a3, rfl⟩
  refine ⟨fun i => if i = 9 then a0 else if i = 12 then a1 else if i = 13 then a2 else a3, ⟨(hi 0 _ _ rfl rfl).1, (hi 1 _ _ rfl rfl).1, (hi 2 _ _ rfl rfl).1⟩, (hi 3 _ _ rfl rfl).1⟩
theorem within_laid {W : World} (h : laidMetH Tryd.prog Rows.rankedWithinRow.laid W) : ∃ A, Err3 W A ∧ W.cell? ⟨3, 0, none⟩ = some (errV (A 14)) ∧ Tab W := by
  have h' : laidMet Tryd.prog (("math/bits.deBruijn64tab", Lib.tabData .u8 (Lib.deBruijn64tab.map fun n => ((n : Nat) : Int))) :: err4Laid) W := h
  obtain ⟨A, h1, h2⟩ := errs4_at h'.tail
  exact ⟨A, h1, h2, tab_head h'⟩
end Go.Proofs.YtgfknlkpdiejgaaDoor
