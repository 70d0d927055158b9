/- trawlref04's form in plain words: what it asks of a node is what tree asks. No program. -/
import Derived.Test.YthddlhpndaffjaaDoorRef04A
namespace Go.Proofs.YthddlhpndaffjaaDoor

def usedB (h : Hd) : Bool := decide (1 ≤ h.kind) && decide (h.kind ≤ 8) && wordsB h.set (usedH h).set && decide (h.num = (usedH h).num) && decide (h.min = (usedH h).min) && decide (h.max = (usedH h).max) && (h.bare == (usedH h).bare)
def swB (h : Hd) (len : Nat) : Bool :=
  if h.kind = 5 ∨ h.kind = 6 then decide (2 ≤ len)
  else if h.kind = 7 then decide (len = 1) && decide (1 ≤ h.num) && decide (h.num ≤ 999)
  else if h.kind = 8 then decide (len = 1) && decide (0 ≤ h.min) && decide (h.min ≤ 255) && decide (-1 ≤ h.max) && decide (h.max ≤ 255) && !(decide (0 ≤ h.max) && decide (h.max < h.min)) && !(h.bare && decide (h.min ≠ 0))
  else decide (len = 0)
theorem words_zero (p : Nat → Bool) : wordsB p noS = zeroS p := by
  unfold wordsB zeroS
  have : ∀ i, wd noS i = 0 := fun i => wd_none i
  simp [this]
theorem used_formed (h : Hd) (len : Nat) : (usedB h && swB h len) = formedB h len := by
  obtain ⟨kind, set, num, mn, mx, bare⟩ := h
  by_cases hr : 1 ≤ kind ∧ kind ≤ 8
  · obtain ⟨h1, h8⟩ := hr
    rcases (show kind = 1 ∨ kind = 2 ∨ kind = 3 ∨ kind = 4 ∨ kind = 5 ∨ kind = 6 ∨ kind = 7 ∨ kind = 8 from by omega) with rfl | rfl | rfl | rfl | rfl | rfl | rfl | rfl
    case inr.inr.inr.inr.inr.inr.inr =>
      have e : formedB ⟨8, set, num, mn, mx, bare⟩ len = (zeroS set && decide (num = 0) && decide (len = 1) && decide (0 ≤ mn) && decide (mn ≤ 255) && !(bare && decide (0 < mn)) && (decide (mx = -1) || decide (mn ≤ mx) && decide (mx ≤ 255))) := rfl
      have e2 : usedB ⟨8, set, num, mn, mx, bare⟩ = (wordsB set noS && decide (num = 0)) := by simp [usedB, usedH]
      have e3 : swB ⟨8, set, num, mn, mx, bare⟩ len = (decide (len = 1) && decide (0 ≤ mn) && decide (mn ≤ 255) && decide (-1 ≤ mx) && decide (mx ≤ 255) && !(decide (0 ≤ mx) && decide (mx < mn)) && !(bare && decide (mn ≠ 0))) := rfl
      rw [e, e2, e3, words_zero, Bool.eq_iff_iff]
      cases zeroS set <;> cases bare <;> simp only [Bool.and_eq_true, Bool.or_eq_true, Bool.not_eq_true', Bool.and_eq_false_iff, decide_eq_true_eq, decide_eq_false_iff_not, Bool.false_and, Bool.true_and, Bool.not_false, Bool.and_true, Bool.false_eq_true] <;> omega
    all_goals
      simp [usedB, usedH, swB, formedB, plainB, words_zero, wordsB_refl]
      try (rw [Bool.eq_iff_iff]; cases zeroS set <;> cases bare <;> simp <;> omega)
  · have hu : usedB ⟨kind, set, num, mn, mx, bare⟩ = false := by
      rw [usedB]
      by_cases h1 : 1 ≤ kind
      · have h8 : ¬ kind ≤ 8 := by omega
        simp [h8]
      · simp [h1]
    rw [hu, Bool.false_and]
    unfold formedB
    simp only
    rw [if_neg (by omega), if_neg (by omega), if_neg (by omega), if_neg (by omega), if_neg (by omega)]

end Go.Proofs.YthddlhpndaffjaaDoor
