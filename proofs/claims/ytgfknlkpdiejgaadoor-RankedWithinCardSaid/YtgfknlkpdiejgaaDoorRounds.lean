/- tree.rounds as a contract. Condition: a repeat in form, few nodes below. -/
import Derived.Test.YtgfknlkpdiejgaaDoorForm
namespace Go.Proofs.YtgfknlkpdiejgaaDoor
open Go.RowKit

def roundsZ (h : Hd) (n : Int) : Int :=
  if h.min = 1 ∧ h.max = 1 then n
  else if h.min = 0 ∧ (h.max = 1 ∨ h.max = -1) then 1 + n
  else if h.max = -1 then 1 + h.min * n + 1 + n
  else 1 + h.min * n + (h.max - h.min) * (1 + n)

set_option maxRecDepth 100000 in
set_option maxHeartbeats 8000000 in
theorem rounds_any (h : Hd) (sv : Value) (n : Int) (w : World) (h0 : 0 ≤ h.min) (h1 : h.min ≤ 255) (h2 : h.max = -1 ∨ (h.min ≤ h.max ∧ h.max ≤ 255)) (hn0 : 0 ≤ n) (hn1 : n ≤ 2001) (hsv : ∃ A l c, sv = .slice A l c) :
    Calls Tryd.prog 32 #[nodeV h sv, .int .i64 n] w fun r w' => r = .returned (.int .i64 (roundsZ h n)) ∧ Ext w w' := by
  obtain ⟨kind, set, num, mn, mx, bare⟩ := h
  obtain ⟨A, len, c, rfl⟩ := hsv
  simp only at h0 h1 h2
  have m1 : 0 ≤ mn * n := Int.mul_nonneg h0 hn0
  have m2 : mn * n ≤ 255 * 2001 := Int.mul_le_mul h1 hn1 hn0 (by omega)
  unfold nodeV
  simp only
  go_enter Tryd.func32, Tryd.ntmps32
  go_upto_region 1 with fail
  have nb := Blk.new w 27 #[.int .i64 kind, .int .u64 (wd set 0 : Int), .int .u64 (wd set 1 : Int), .int .u64 (wd set 2 : Int), .int .u64 (wd set 3 : Int), .slice A len c, .int .i64 num, .int .i64 mn, .int .i64 mx, .bool bare]
  have hx := (Ext.refl w).alloc (.cells #[.int .i64 kind, .int .u64 (wd set 0 : Int), .int .u64 (wd set 1 : Int), .int .u64 (wd set 2 : Int), .int .u64 (wd set 3 : Int), .slice A len c, .int .i64 num, .int .i64 mn, .int .i64 mx, .bool bare] 27)
  generalize w.alloc (.cells #[.int .i64 kind, .int .u64 (wd set 0 : Int), .int .u64 (wd set 1 : Int), .int .u64 (wd set 2 : Int), .int .u64 (wd set 3 : Int), .slice A len c, .int .i64 num, .int .i64 mn, .int .i64 mx, .bool bare] 27) = w1 at *
  generalize w.heap.size = b at *
  have c7 := nb.cell 7
  have c8 := nb.cell 8
  simp only [List.getElem?_toArray, List.getElem?_cons_succ, List.getElem?_cons_zero] at c7 c8
  clear nb
  by_cases a1 : mn = 1 ∧ mx = 1
  · obtain ⟨rfl, rfl⟩ := a1
    go_wp2
    go_ret
    exact ⟨rfl, hx⟩
  by_cases a2 : mn = 0 ∧ (mx = 1 ∨ mx = -1)
  · obtain ⟨rfl, rfl | rfl⟩ := a2
    all_goals
      have q1 : IntKind.i64.wrap (1 + n) = 1 + n := by rw [IntKind.wrap_i64]; omega
      go_wp2
      go_ret
      exact ⟨by simp [roundsZ], hx⟩
  by_cases a3 : mx = -1
  · subst a3
    have q1 : IntKind.i64.wrap (mn * n) = mn * n := by rw [IntKind.wrap_i64]; omega
    have q2 : IntKind.i64.wrap (1 + mn * n) = 1 + mn * n := by rw [IntKind.wrap_i64]; omega
    have q3 : IntKind.i64.wrap (1 + mn * n + 1) = 1 + mn * n + 1 := by rw [IntKind.wrap_i64]; omega
    have q4 : IntKind.i64.wrap (1 + mn * n + 1 + n) = 1 + mn * n + 1 + n := by rw [IntKind.wrap_i64]; omega
    have HR := Lib.hid (show roundsZ ⟨kind, set, num, mn, -1, bare⟩ n = 1 + mn * n + 1 + n by
      unfold roundsZ
      rw [if_neg (by simp), if_neg (by simp only; omega), if_pos rfl])
    have d1 : mn ≠ 0 := by omega
    go_wp2
    all_goals
      go_ret
      exact ⟨by first | (rw [HR.out]; rfl) | (simp [roundsZ, *]; done) | (simp [roundsZ, *]; omega), hx⟩
  · have hmx : mn ≤ mx ∧ mx ≤ 255 := h2.resolve_left a3
    have m3 : 0 ≤ (mx - mn) * (1 + n) := Int.mul_nonneg (by omega) (by omega)
    have m4 : (mx - mn) * (1 + n) ≤ 255 * 2002 := Int.mul_le_mul (by omega) (by omega) (by omega) (by omega)
    have q1 : IntKind.i64.wrap (mn * n) = mn * n := by rw [IntKind.wrap_i64]; omega
    have q2 : IntKind.i64.wrap (1 + mn * n) = 1 + mn * n := by rw [IntKind.wrap_i64]; omega
    have q3 : IntKind.i64.wrap (mx - mn) = mx - mn := by rw [IntKind.wrap_i64]; omega
    have q4 : IntKind.i64.wrap (1 + n) = 1 + n := by rw [IntKind.wrap_i64]; omega
    have q5 : IntKind.i64.wrap ((mx - mn) * (1 + n)) = (mx - mn) * (1 + n) := by rw [IntKind.wrap_i64]; omega
    have q6 : IntKind.i64.wrap (1 + mn * n + (mx - mn) * (1 + n)) = 1 + mn * n + (mx - mn) * (1 + n) := by rw [IntKind.wrap_i64]; omega
    have HR := Lib.hid (show roundsZ ⟨kind, set, num, mn, mx, bare⟩ n = 1 + mn * n + (mx - mn) * (1 + n) by
      unfold roundsZ
      rw [if_neg a1, if_neg a2, if_neg a3])
    have hd : (mn = 1 ∧ mx ≠ 1) ∨ (mn = 0 ∧ mx ≠ 1) ∨ (mn ≠ 0 ∧ mn ≠ 1) := by omega
    rcases hd with ⟨rfl, hd⟩ | ⟨rfl, hd⟩ | ⟨hd1, hd2⟩
    case' inr.inl =>
      rw [Int.sub_zero] at m3 m4
      have w1 : IntKind.i64.wrap (mx * (1 + n)) = mx * (1 + n) := by rw [IntKind.wrap_i64]; omega
      have w2 : IntKind.i64.wrap (1 + mx * (1 + n)) = 1 + mx * (1 + n) := by rw [IntKind.wrap_i64]; omega
      have n1 : (mx == 1) = false := by simpa using hd
      have n2 : (mx == -1) = false := by simpa using a3
      clear q1 q2 q3 q5 q6 a1 a2
    all_goals
      go_wp2
      all_goals
        go_ret
        exact ⟨by rw [HR.out]; first | rfl | (simp; done), hx⟩

end Go.Proofs.YtgfknlkpdiejgaaDoor
