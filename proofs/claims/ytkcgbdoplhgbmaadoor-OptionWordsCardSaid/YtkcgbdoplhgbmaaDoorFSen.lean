/- fault.sentinel: the error value of a number. Condition: where the error values lie. Printed by genfer.py. -/
import Derived.Test.YtkcgbdoplhgbmaaDoorErrs
namespace Go.Proofs.YtkcgbdoplhgbmaaDoor
open Go Go.RowKit Go.Extern.Stop Go.Stop Go.Extern

/-- The error value of a number; nil: there is none. -/
def senV (A : Nat → Addr) (n : Int) : Value := if 1 ≤ n ∧ n ≤ 21 then errV (A (n.toNat - 1)) else .nilIface


set_option maxRecDepth 100000 in
set_option maxHeartbeats 4000000 in
theorem upper_any (A : Nat → Addr) (n : Int) (w : World) (h : ErrsAt w A) (hn : ¬ (1 ≤ n ∧ n ≤ 10)) :
    Calls Tryd.prog 99 #[.int .i64 n] w fun e w' => e = .returned (senV A n) ∧ w = w' := by
  have v11 := h.var 10 (by omega)
  have v12 := h.var 11 (by omega)
  have v13 := h.var 12 (by omega)
  have v14 := h.var 13 (by omega)
  have v15 := h.var 14 (by omega)
  have v16 := h.var 15 (by omega)
  have v17 := h.var 16 (by omega)
  have v18 := h.var 17 (by omega)
  have v19 := h.var 18 (by omega)
  have v20 := h.var 19 (by omega)
  have v21 := h.var 20 (by omega)
  simp only [gb, gbs, List.getD_cons_zero, List.getD_cons_succ] at v11 v12 v13 v14 v15 v16 v17 v18 v19 v20 v21
  clear h
  by_cases hr : 11 ≤ n ∧ n ≤ 21
  · have hc : n = 11 ∨ n = 12 ∨ n = 13 ∨ n = 14 ∨ n = 15 ∨ n = 16 ∨ n = 17 ∨ n = 18 ∨ n = 19 ∨ n = 20 ∨ n = 21 := by omega
    clear hn hr
    rcases hc with rfl | rfl | rfl | rfl | rfl | rfl | rfl | rfl | rfl | rfl | rfl
    all_goals
      go_enter Tryd.func99, Tryd.ntmps99
      go_wp2
      go_ret
      exact ⟨rfl, rfl⟩
  · have hq : ¬ n = 11 ∧ ¬ n = 12 ∧ ¬ n = 13 ∧ ¬ n = 14 ∧ ¬ n = 15 ∧ ¬ n = 16 ∧ ¬ n = 17 ∧ ¬ n = 18 ∧ ¬ n = 19 ∧ ¬ n = 20 ∧ ¬ n = 21 := by omega
    obtain ⟨q11, q12, q13, q14, q15, q16, q17, q18, q19, q20, q21⟩ := hq
    have hs : senV A n = .nilIface := if_neg (by omega)
    rw [hs]
    clear hn hr hs v11 v12 v13 v14 v15 v16 v17 v18 v19 v20 v21
    go_enter Tryd.func99, Tryd.ntmps99
    go_wp2
    go_ret
    exact ⟨rfl, rfl⟩


set_option maxRecDepth 100000 in
set_option maxHeartbeats 4000000 in
theorem senti_any (A : Nat → Addr) (n : Int) (w : World) (h : ErrsAt w A) :
    Calls Tryd.prog 74 #[.int .i64 n] w fun e w' => e = .returned (senV A n) ∧ w = w' := by
  have v1 := h.var 0 (by omega)
  have v2 := h.var 1 (by omega)
  have v3 := h.var 2 (by omega)
  have v4 := h.var 3 (by omega)
  have v5 := h.var 4 (by omega)
  have v6 := h.var 5 (by omega)
  have v7 := h.var 6 (by omega)
  have v8 := h.var 7 (by omega)
  have v9 := h.var 8 (by omega)
  have v10 := h.var 9 (by omega)
  simp only [gb, gbs, List.getD_cons_zero, List.getD_cons_succ] at v1 v2 v3 v4 v5 v6 v7 v8 v9 v10
  have HU := Lib.hid (upper_any A n w h)
  clear h
  by_cases hr : 1 ≤ n ∧ n ≤ 10
  · have hc : n = 1 ∨ n = 2 ∨ n = 3 ∨ n = 4 ∨ n = 5 ∨ n = 6 ∨ n = 7 ∨ n = 8 ∨ n = 9 ∨ n = 10 := by omega
    clear HU hr
    rcases hc with rfl | rfl | rfl | rfl | rfl | rfl | rfl | rfl | rfl | rfl
    all_goals
      go_enter Tryd.func74, Tryd.ntmps74
      go_wp2
      go_ret
      exact ⟨rfl, rfl⟩
  · have hq : ¬ n = 1 ∧ ¬ n = 2 ∧ ¬ n = 3 ∧ ¬ n = 4 ∧ ¬ n = 5 ∧ ¬ n = 6 ∧ ¬ n = 7 ∧ ¬ n = 8 ∧ ¬ n = 9 ∧ ¬ n = 10 := by omega
    obtain ⟨q1, q2, q3, q4, q5, q6, q7, q8, q9, q10⟩ := hq
    have HU2 := Lib.hid (HU.out hr)
    clear HU hr v1 v2 v3 v4 v5 v6 v7 v8 v9 v10
    generalize senV A n = sv at *
    go_enter Tryd.func74, Tryd.ntmps74
    go_wp2_with (go_at_call 99; refine HU2.out.mono ?_; rintro e w5 ⟨rfl, rfl⟩)
    go_ret
    exact ⟨rfl, rfl⟩

end Go.Proofs.YtkcgbdoplhgbmaaDoor