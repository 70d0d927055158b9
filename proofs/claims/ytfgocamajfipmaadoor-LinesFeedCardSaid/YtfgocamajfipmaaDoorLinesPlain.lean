/- The plain law of the lines of a stream, over lists of bytes: no program in sight. No condition. -/
namespace Go.Proofs.YtfgocamajfipmaaDoor

/-- The lines that a newline ends, and what stands behind the last one; h is what is held. -/
def splitL : List UInt8 → List UInt8 → List (List UInt8) × List UInt8
  | h, [] => ([], h)
  | h, c :: r => if c = 10 then (h :: (splitL [] r).1, (splitL [] r).2) else splitL (h ++ [c]) r

theorem splitL_nil (h : List UInt8) : splitL h [] = ([], h) := by simp [splitL]
theorem splitL_nl (h r : List UInt8) : splitL h (10 :: r) = (h :: (splitL [] r).1, (splitL [] r).2) := by simp [splitL]
theorem splitL_ne (h r : List UInt8) (c : UInt8) (hc : c ≠ 10) : splitL h (c :: r) = splitL (h ++ [c]) r := by simp [splitL, hc]
/-- What holds no newline is held. -/
theorem splitL_pre : ∀ (p h r : List UInt8), (∀ c ∈ p, c ≠ 10) → splitL h (p ++ r) = splitL (h ++ p) r
  | [], h, r, _ => by simp
  | c :: p, h, r, hp => by
    rw [List.cons_append, splitL_ne _ _ _ (hp c (by simp)), splitL_pre p (h ++ [c]) r (fun x hx => hp x (by simp [hx])), List.append_assoc]
    rfl
theorem splitL_free (p h : List UInt8) (hp : ∀ c ∈ p, c ≠ 10) : splitL h p = ([], h ++ p) := by
  have := splitL_pre p h [] hp
  rwa [List.append_nil, splitL_nil] at this
theorem splitL_cut (p h r : List UInt8) (hp : ∀ c ∈ p, c ≠ 10) : splitL h (p ++ 10 :: r) = ((h ++ p) :: (splitL [] r).1, (splitL [] r).2) := by
  rw [splitL_pre p h _ hp, splitL_nl]
/-- One piece behind another one. -/
theorem splitL_append : ∀ (a h b : List UInt8), splitL h (a ++ b) = ((splitL h a).1 ++ (splitL (splitL h a).2 b).1, (splitL (splitL h a).2 b).2)
  | [], h, b => by simp [splitL_nil]
  | c :: a, h, b => by
    by_cases hc : c = 10
    · subst hc
      rw [List.cons_append, splitL_nl, splitL_nl, splitL_append a [] b]
      rfl
    · rw [List.cons_append, splitL_ne _ _ _ hc, splitL_ne _ _ _ hc, splitL_append a (h ++ [c]) b]
theorem splitL_len : ∀ (a h : List UInt8), (splitL h a).1.length + (splitL h a).2.length ≤ h.length + a.length
  | [], h => by simp [splitL_nil]
  | c :: a, h => by
    by_cases hc : c = 10
    · subst hc
      rw [splitL_nl]
      have := splitL_len a []
      simp only [List.length_cons, List.length_nil] at this ⊢
      omega
    · rw [splitL_ne _ _ _ hc]
      have := splitL_len a (h ++ [c])
      simp only [List.length_append, List.length_cons, List.length_nil] at this ⊢
      omega
theorem splitL_rest_free : ∀ (a h : List UInt8), (∀ c ∈ h, c ≠ 10) → ∀ c ∈ (splitL h a).2, c ≠ 10
  | [], h, hh => by rw [splitL_nil]; exact hh
  | c :: a, h, hh => by
    by_cases hc : c = 10
    · subst hc
      rw [splitL_nl]
      exact splitL_rest_free a [] (by simp)
    · rw [splitL_ne _ _ _ hc]
      refine splitL_rest_free a (h ++ [c]) fun x hx => ?_
      rcases List.mem_append.1 hx with h1 | h1
      · exact hh x h1
      · simp only [List.mem_singleton] at h1; rw [h1]; exact hc
/-- The lines with newlines behind them. -/
def joinedL (l : List (List UInt8)) : List UInt8 := l.flatMap fun x => x ++ [10]
theorem joinedL_nil : joinedL [] = [] := rfl
theorem joinedL_snoc (l : List (List UInt8)) (x : List UInt8) : joinedL (l ++ [x]) = joinedL l ++ x ++ [10] := by simp [joinedL]
theorem joined_split : ∀ (a h : List UInt8), joinedL (splitL h a).1 ++ (splitL h a).2 = h ++ a
  | [], h => by simp [splitL_nil, joinedL]
  | c :: a, h => by
    by_cases hc : c = 10
    · subst hc
      rw [splitL_nl]
      have := joined_split a []
      simp only [joinedL, List.flatMap_cons, List.append_assoc] at this ⊢
      rw [this]
      simp
    · rw [splitL_ne _ _ _ hc, joined_split a (h ++ [c])]
      simp
theorem joinedL_len (l : List (List UInt8)) (r a : List UInt8) (h : joinedL l ++ r = a) : (joinedL l).length ≤ a.length := by rw [← h]; simp
theorem joinedL_take_len (l : List (List UInt8)) (k : Nat) : (joinedL (l.take k)).length ≤ (joinedL l).length := by
  have : joinedL l = joinedL (l.take k) ++ joinedL (l.drop k) := by unfold joinedL; rw [← List.flatMap_append, List.take_append_drop]
  rw [this]
  simp
/-- What End tells. -/
def lastL (r : List UInt8) : List UInt8 := r

end Go.Proofs.YtfgocamajfipmaaDoor
