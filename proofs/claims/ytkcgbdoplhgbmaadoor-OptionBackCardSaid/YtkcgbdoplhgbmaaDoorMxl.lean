/- The cell of internal/bytealg.MaxLen holds some number: from the world's shape. -/
import Derived.Shelf.Vars
import Derived.KernelRfl
import Derived.Test.YtkcgbdoplhgbmaaDoorProg
namespace Go.Proofs.YtkcgbdoplhgbmaaDoor
open Go

theorem maxlen_lt : 22 < Tryd.prog.globals.size := by
  have h : (Tryd.prog.globals[22]?).isSome = true := by kernel_rfl
  rcases Nat.lt_or_ge 22 Tryd.prog.globals.size with h1 | h1
  · exact h1
  · rw [Array.getElem?_eq_none h1] at h
    cases h
theorem maxlen_at {W : World} (h : W.ShapedOpen Tryd.prog) : ∃ m, W.cell? ⟨22, 0, none⟩ = some (.int .i64 m) :=
  cell_of_shapedOpen_int (t := 3) (zero := #[.int .i64 0]) h maxlen_lt (by kernel_rfl) (by kernel_rfl) (by kernel_rfl) (by kernel_rfl) (by kernel_rfl)

end Go.Proofs.YtkcgbdoplhgbmaaDoor
