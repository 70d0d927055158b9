/- The three error values of tree.Check as a walk meets them. No condition but that the row's listed variables hold what the row lists. -/
import Derived.Test.YtgfknlkpdiejgaaDoorErrB
namespace Go.Proofs.YtgfknlkpdiejgaaDoor
open Go.RowKit Go.Extern.Stop Go.Stop Go.Extern

/-- Where ErrTooBig, ErrTree, ErrDeep lie. -/
structure Err3 (w : World) (A : Nat → Addr) : Prop where
  v9 : w.cell? ⟨2, 0, none⟩ = some (errV (A 9))
  v12 : w.cell? ⟨0, 0, none⟩ = some (errV (A 12))
  v13 : w.cell? ⟨1, 0, none⟩ = some (errV (A 13))
theorem Err3.ext {w w' : World} {A : Nat → Addr} (h : Err3 w A) (hx : Ext w w') : Err3 w' A := ⟨hx.cell h.v9, hx.cell h.v12, hx.cell h.v13⟩
def err3List : List (String × Nat × List UInt8) := [9, 12, 13].map fun i => (errNames.getD i "", if i = 9 then 2 else if i = 12 then 0 else 1, errTexts.getD i [])
def err3Laid : List (String × DataW Unit) := err3List.map fun x => (x.1, errD x.2.2)
theorem errs3_at {W : World} (h : laidMet Tryd.prog err3Laid W) : ∃ A, Err3 W A := by
  obtain ⟨ps, hv, hnd, hrows⟩ := h
  obtain ⟨al, hl, hi, _, hn⟩ := laid_many err3List ps (by
    have hall : err3List.all (fun x => decide (Tryd.prog.globalNamed x.1 = some x.2.1 ∧ (Tryd.prog.globals[x.2.1]?).map (·.type) = some 33)) = true := by kernel_rfl
    intro x hx
    exact of_decide_eq_true (List.all_eq_true.1 hall x hx)) hv hnd hrows
  have hl3 : al.length = 3 := by rw [hl]; rfl
  obtain ⟨a0, a1, a2, rfl⟩ : ∃ a0 a1 a2, al = [a0, a1, a2] := by
    match al, hl3 with
    | [a0, a1, a2], _ => exact ⟨a0, a1, a2, rfl⟩
  refine ⟨fun i => if i = 9 then a0 else if i = 12 then a1 else a2, (hi 0 _ _ rfl rfl).1, (hi 1 _ _ rfl rfl).1, (hi 2 _ _ rfl rfl).1⟩

end Go.Proofs.YtgfknlkpdiejgaaDoor
