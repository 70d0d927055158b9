/- The rows of a set cover it, with gaps between them. Plain. -/
import Derived.Test.YtfgocamajfipmaaORowP
namespace Go.Proofs.Ytfgocamajfipmaa

theorem rowsTo_cases (p : Nat → Bool) (m : Nat) (C : List (Nat × Nat) → Prop) (hno : p m = false → C (rowsTo p m)) (hnew : p m = true → (m = 0 ∨ p (m - 1) = false) → C (rowsTo p m ++ [(m, m)]))
    (hon : ∀ l a, p m = true → m ≠ 0 → p (m - 1) = true → rowsTo p m = l ++ [(a, m - 1)] → C (l ++ [(a, m)])) : C (rowsTo p (m + 1)) := by
  cases h : p m with
  | false => rw [rowsTo_no p m h]; exact hno h
  | true =>
    by_cases h2 : m ≠ 0 ∧ p (m - 1) = true
    · obtain ⟨h3, h4⟩ := h2
      obtain ⟨l, a, hl⟩ := rowsTo_ends p (m - 1) h4
      have e : m - 1 + 1 = m := by omega
      rw [e] at hl
      rw [rowsTo_on p m l a _ h h3 h4 hl]
      exact hon l a h h3 h4 hl
    · have h5 : m = 0 ∨ p (m - 1) = false := by
        rcases Nat.eq_zero_or_pos m with h5 | h5
        · exact .inl h5
        · right
          cases h6 : p (m - 1) with
          | false => rfl
          | true => exact absurd ⟨by omega, h6⟩ h2
      rw [rowsTo_new p m h h5]
      exact hnew h h5

theorem rows_true (p : Nat → Bool) : ∀ m, ∀ x ∈ rowsTo p m, p x.2 = true
  | 0 => fun x hx => by cases hx
  | m + 1 => by
    have ih := rows_true p m
    refine rowsTo_cases p m (fun l => ∀ x ∈ l, p x.2 = true) (fun _ => ih) (fun h _ x hx => ?_) (fun l a h _ _ hl x hx => ?_)
    · rcases List.mem_append.1 hx with h1 | h1
      · exact ih x h1
      · simp only [List.mem_singleton] at h1
        subst h1
        exact h
    · rcases List.mem_append.1 hx with h1 | h1
      · exact ih x (by rw [hl]; exact List.mem_append_left _ h1)
      · simp only [List.mem_singleton] at h1
        subst h1
        exact h
/-- Between two rows lies a gap. -/
theorem rows_gap (p : Nat → Bool) : ∀ m, (rowsTo p m).Pairwise (fun x y => x.2 + 1 < y.1)
  | 0 => .nil
  | m + 1 => by
    have ih := rows_gap p m
    refine rowsTo_cases p m (fun l => l.Pairwise (fun x y => x.2 + 1 < y.1)) (fun _ => ih) (fun h h5 => ?_) (fun l a h _ _ hl => ?_)
    · refine List.pairwise_append.2 ⟨ih, by simp, fun x hx y hy => ?_⟩
      simp only [List.mem_singleton] at hy
      subst hy
      have h1 := (rowsTo_lt p m x hx).2
      have h2 := rows_true p m x hx
      have h3 : x.2 ≠ m - 1 := fun e => by
        rcases h5 with h5 | h5
        · omega
        · rw [e, h5] at h2; cases h2
      simp only
      omega
    · rw [hl] at ih
      obtain ⟨i1, _, i3⟩ := List.pairwise_append.1 ih
      refine List.pairwise_append.2 ⟨i1, by simp, fun x hx y hy => ?_⟩
      simp only [List.mem_singleton] at hy
      subst hy
      exact i3 x hx (a, m - 1) (by simp)
theorem rows_gap_at (p : Nat → Bool) (m k : Nat) (h : k + 1 < (rowsTo p m).length) : ((rowsTo p m).getD k (0, 0)).2 + 1 < ((rowsTo p m).getD (k + 1) (0, 0)).1 := by
  have := (List.pairwise_iff_getElem.1 (rows_gap p m)) k (k + 1) (by omega) h (by omega)
  simpa [List.getD_eq_getElem?_getD, List.getElem?_eq_getElem h, List.getElem?_eq_getElem (show k < (rowsTo p m).length by omega)] using this

/-- What the rows cover. -/
def covB (l : List (Nat × Nat)) : Nat → Bool := fun b => l.any fun x => decide (x.1 ≤ b) && decide (b ≤ x.2)
theorem covB_snoc (l : List (Nat × Nat)) (x : Nat × Nat) (b : Nat) : covB (l ++ [x]) b = (covB l b || (decide (x.1 ≤ b) && decide (b ≤ x.2))) := by simp [covB]
theorem rows_cov (p : Nat → Bool) : ∀ m b, covB (rowsTo p m) b = (decide (b < m) && p b)
  | 0, b => by simp [covB, rowsTo]
  | m + 1, b => by
    have ih := rows_cov p m b
    refine rowsTo_cases p m (fun l => covB l b = (decide (b < m + 1) && p b)) (fun h => ?_) (fun h _ => ?_) (fun l a h hm h1 hl => ?_)
    · rw [ih]
      by_cases hb : b = m
      · subst hb; simp [h]
      · have : (b < m + 1) ↔ (b < m) := by omega
        simp [this]
    · rw [covB_snoc, ih]
      by_cases hb : b = m
      · subst hb; simp [h]
      · have e1 : (b < m + 1) ↔ (b < m) := by omega
        have e2 : (decide (m ≤ b) && decide (b ≤ m)) = false := by
          rw [Bool.and_eq_false_iff, decide_eq_false_iff_not, decide_eq_false_iff_not]; omega
        simp [e1, e2]
    · have ham := rowsTo_lt p m (a, m - 1) (by rw [hl]; simp)
      simp only at ham
      rw [hl, covB_snoc] at ih
      rw [covB_snoc]
      by_cases hb : b = m
      · subst hb
        have e1 : decide (a ≤ b) = true := by simp; omega
        simp only [e1]
        simp [h]
      · have e1 : (b < m + 1) ↔ (b < m) := by omega
        have e2 : (decide (b ≤ m)) = decide (b ≤ m - 1) := by
          rw [decide_eq_decide]; omega
        simp only at ih ⊢
        rw [e2, ih]
        simp [e1]

end Go.Proofs.Ytfgocamajfipmaa
