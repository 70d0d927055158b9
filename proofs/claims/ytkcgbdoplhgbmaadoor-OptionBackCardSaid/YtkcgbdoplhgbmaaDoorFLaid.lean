/- From the rows' listed variables to the walks' facts, layer 3. Condition: these variables hold what the row lists. -/
import Derived.Test.YtkcgbdoplhgbmaaDoorRows
import Derived.Test.YtkcgbdoplhgbmaaDoorFTell
import Derived.LaidLaws
import Derived.LaidHandle
import Derived.Lib.LaidTab
namespace Go.Proofs.YtkcgbdoplhgbmaaDoor
open Go Go.RowKit Go.Extern.Stop Go.Stop Go.Extern

theorem flt_et : Tryd.prog.globalNamed "errors.errorType" = some 21 := by kernel_rfl
theorem flt_rt : (Tryd.prog.cutTypes.find? (·.1 == "internal/reflectlite.rtype")).map (·.2) = some 148 := by kernel_rfl
theorem flt_oneRow : ((List.range Tryd.prog.types.size).filter fun t => Tryd.prog.rowNamed t [101, 114, 114, 111, 114]) = [32] := by kernel_rfl
theorem flt_handle {W : World} {d : DataW Unit} (hd : d = .iface "internal/reflectlite.rtype" (.agg [.ptr (.lit (.string [101, 114, 114, 111, 114]))])) (h : handlesMet Tryd.prog [("errors.errorType", d)] W) : W.cell? ⟨21, 0, none⟩ = some errTV := by
  subst hd
  obtain ⟨name, u, ty, e1, e2, e3, e4, e5⟩ := h _ (List.mem_singleton.2 rfl)
  have en : name = [101, 114, 114, 111, 114] := (Option.some.inj e1).symm
  subst en
  obtain rfl := Option.some.inj (flt_rt.symm.trans e2)
  have hm : ty ∈ (List.range Tryd.prog.types.size).filter fun t => Tryd.prog.rowNamed t [101, 114, 114, 111, 114] := List.mem_filter.2 ⟨List.mem_range.2 e3, e4⟩
  rw [flt_oneRow] at hm
  obtain rfl := List.mem_singleton.1 hm
  have hh : typeHandle Tryd.prog 32 = .pointer (some ⟨28, 32, none⟩) := by kernel_rfl
  rw [hh] at e5
  simpa [errTV] using World.var?_cell flt_et e5 0
theorem flt_laid {W : World} (h : laidMetH Tryd.prog Rows.faultTellsRow.laid W) : ∃ A, ErrsAt W A ∧ LibV W := by
  have h' : laidMet Tryd.prog (("math/bits.deBruijn32tab", Rows.laid_math_bits_deBruijn32tab) :: ("math/bits.deBruijn64tab", Rows.laid_math_bits_deBruijn64tab) :: ("internal/strconv.uint64pow10", Lib.tabData .u64 Lib.pow10Tab) :: errLaid) W ∧ handlesMet Tryd.prog [("errors.errorType", Rows.laid_errors_errorType)] W := h
  have h2 := h'.1.tail.tail
  obtain ⟨A, hA⟩ := errs_at h2.tail
  exact ⟨A, hA, flt_handle rfl h'.2, Lib.tabIs_of_head (n := 20) pw_global (t := 184) (by kernel_rfl) Tryd.underlying184 Tryd.underlying22 (by kernel_rfl) (by kernel_rfl) h2⟩
end Go.Proofs.YtkcgbdoplhgbmaaDoor
