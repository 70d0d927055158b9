/- The rows' listed variables, layer 28: a world that holds them, and the walks' facts. Condition: these variables hold what the row lists. -/
import Derived.Test.YtkcgbdoplhgbmaaDoorFLaid
import Derived.Lay
import Derived.LaidSub
namespace Go.Proofs.YtkcgbdoplhgbmaaDoor
open Go Go.RowKit Go.Extern.Stop Go.Stop Go.Extern

/-- A world that holds what a row of layer 28 lists. -/
noncomputable def optWorld (os : Os) (laid : List (String × DataW Unit)) : World :=
  ((World.holding Tryd.prog os ⟨#[], #[], []⟩).setCell ⟨21, 0, none⟩ errTV).layVars Tryd.prog (laid.filter fun x => x.2.handleName?.isNone)
theorem optWorld_os (os : Os) (laid : List (String × DataW Unit)) : (optWorld os laid).os = os := World.layVars_os _ _ _
theorem optWorld_met (os : Os) (args : Array Value) (laid : List (String × DataW Unit))
    (hf : ((World.holding Tryd.prog os ⟨#[], #[], []⟩).setCell ⟨21, 0, none⟩ errTV).layFits Tryd.prog (laid.filter fun x => x.2.handleName?.isNone) [] = true)
    (hi : ((World.holding Tryd.prog os ⟨#[], #[], []⟩).setCell ⟨21, 0, none⟩ errTV).layIfaces Tryd.prog (laid.filter fun x => x.2.handleName?.isNone) (optWorld os laid) = true)
    (hh : (laid.filter fun x => x.2.handleName?.isSome && x.2.funcsIn?.isNone).all (handleAtB Tryd.prog ((optWorld os laid).forCall (fun _ _ => 0) ⟨#[], args, []⟩).memory) = true)
    (hg : funcsListed laid = []) : laidMetH Tryd.prog laid ((optWorld os laid).forCall (fun _ _ => 0) ⟨#[], args, []⟩).memory := by
  refine laidMetH_of_parts3 (fuel := 0) ?_ hh (by rw [hg]; rfl)
  generalize hD : (laid.filter fun x => x.2.handleName?.isNone) = D at *
  have e1 : (D.filter fun x => (D.map (·.1)).contains x.1) = D := List.filter_eq_self.2 fun x hx => List.contains_iff_mem.2 (List.mem_map.2 ⟨x, hx, rfl⟩)
  have e2 : (D.filter fun x => !(D.map (·.1)).contains x.1) = [] := List.filter_eq_nil_iff.2 fun x hx => by rw [List.contains_iff_mem.2 (List.mem_map.2 ⟨x, hx, rfl⟩)]; simp
  have h : laidMet Tryd.prog D (optWorld os laid) := laidMet_layVars (w0 := (World.holding Tryd.prog os ⟨#[], #[], []⟩).setCell ⟨21, 0, none⟩ errTV) (D.map (·.1)) [] (by rw [e1]; unfold optWorld; rw [hD]) (by rw [e1]; exact hf) (by rw [e1]; exact hi) (by rw [e2]; exact LaidIn.none)
  exact h.of_heap (by simp [World.memory, World.forCall, Input.heap])

/-- The variables of the rows of Words and Back. -/
theorem words_laid {W : World} (h : laidMetH Tryd.prog Rows.optionWordsRow.laid W) : ∃ A, ErrsAt W A ∧ LibV W := by
  have h' : laidMet Tryd.prog (("math/bits.deBruijn32tab", Rows.laid_math_bits_deBruijn32tab) :: ("math/bits.deBruijn64tab", Rows.laid_math_bits_deBruijn64tab) :: ("internal/strconv.uint64pow10", Lib.tabData .u64 Lib.pow10Tab) :: ("unicode/utf8.acceptRanges", Rows.laid_unicode_utf8_acceptRanges) :: (errLaid ++ [("unicode/utf8.first", Rows.laid_unicode_utf8_first)])) W ∧ handlesMet Tryd.prog [("errors.errorType", Rows.laid_errors_errorType)] W := h
  have h2 := h'.1.tail.tail
  have h3 := h2.tail.tail.filter (fun x => x.1 != "unicode/utf8.first")
  rw [show (errLaid ++ [("unicode/utf8.first", Rows.laid_unicode_utf8_first)]).filter (fun x => x.1 != "unicode/utf8.first") = errLaid from by kernel_rfl] at h3
  obtain ⟨A, hA⟩ := errs_at h3
  exact ⟨A, hA, flt_handle rfl h'.2, Lib.tabIs_of_head (n := 20) pw_global (t := 184) (by kernel_rfl) Tryd.underlying184 Tryd.underlying22 (by kernel_rfl) (by kernel_rfl) h2⟩
/-- The variables of the rows of Parses and Joins. -/
theorem parses_laid {W : World} (h : laidMetH Tryd.prog Rows.optionParsesRow.laid W) : ∃ A, ErrsAt W A ∧ W.cell? ⟨21, 0, none⟩ = some errTV := by
  have h' : laidMet Tryd.prog (("unicode/utf8.acceptRanges", Rows.laid_unicode_utf8_acceptRanges) :: (errLaid ++ [("unicode/utf8.first", Rows.laid_unicode_utf8_first)])) W ∧ handlesMet Tryd.prog [("errors.errorType", Rows.laid_errors_errorType)] W := h
  have h3 := h'.1.tail.filter (fun x => x.1 != "unicode/utf8.first")
  rw [show (errLaid ++ [("unicode/utf8.first", Rows.laid_unicode_utf8_first)]).filter (fun x => x.1 != "unicode/utf8.first") = errLaid from by kernel_rfl] at h3
  obtain ⟨A, hA⟩ := errs_at h3
  exact ⟨A, hA, flt_handle rfl h'.2⟩

theorem wordsW_met (os : Os) (args : Array Value) : laidMetH Tryd.prog Rows.optionWordsRow.laid ((optWorld os Rows.optionWordsRow.laid).forCall (fun _ _ => 0) ⟨#[], args, []⟩).memory :=
  optWorld_met os args _ (by kernel_rfl) (by kernel_rfl) (by kernel_rfl) (by kernel_rfl)
theorem wordsW_shaped (os : Os) (args : Array Value) : ((optWorld os Rows.optionWordsRow.laid).forCall (fun _ _ => 0) ⟨#[], args, []⟩).Shaped Tryd.prog := World.shaped_of_ZipB (by kernel_rfl) (by kernel_rfl)
theorem parsesW_met (os : Os) (args : Array Value) : laidMetH Tryd.prog Rows.optionParsesRow.laid ((optWorld os Rows.optionParsesRow.laid).forCall (fun _ _ => 0) ⟨#[], args, []⟩).memory :=
  optWorld_met os args _ (by kernel_rfl) (by kernel_rfl) (by kernel_rfl) (by kernel_rfl)
theorem parsesW_shaped (os : Os) (args : Array Value) : ((optWorld os Rows.optionParsesRow.laid).forCall (fun _ _ => 0) ⟨#[], args, []⟩).Shaped Tryd.prog := World.shaped_of_ZipB (by kernel_rfl) (by kernel_rfl)

end Go.Proofs.YtkcgbdoplhgbmaaDoor
