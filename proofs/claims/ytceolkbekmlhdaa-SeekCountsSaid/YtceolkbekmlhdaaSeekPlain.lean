/- Plain facts on seeking a text in a text: the shift by the last byte passes over no place at which the text stands. No condition. -/
namespace Go.Proofs.Ytceolkbekmlhdaa

/-- Does t stand in s at place i? -/
def stands (s t : List UInt8) (i : Nat) : Bool := decide (i + t.length ≤ s.length) && ((s.drop i).take t.length == t)

theorem stands_iff (s t : List UInt8) (i : Nat) : stands s t i = true ↔ i + t.length ≤ s.length ∧ ∀ j, j < t.length → s[i + j]? = t[j]? := by
  unfold stands
  rw [Bool.and_eq_true, decide_eq_true_eq, beq_iff_eq]
  constructor
  · rintro ⟨h1, h2⟩
    refine ⟨h1, fun j hj => ?_⟩
    have h3 : ((s.drop i).take t.length)[j]? = t[j]? := by rw [h2]
    rw [List.getElem?_take, if_pos hj, List.getElem?_drop] at h3
    exact h3
  · rintro ⟨h1, h2⟩
    refine ⟨h1, ?_⟩
    apply List.ext_getElem?
    intro j
    rw [List.getElem?_take]
    by_cases hj : j < t.length
    · rw [if_pos hj, List.getElem?_drop]; exact h2 j hj
    · rw [if_neg hj]; rw [List.getElem?_eq_none (by omega)]

theorem stands_le {s t : List UInt8} {i : Nat} (h : stands s t i = true) : i + t.length ≤ s.length := ((stands_iff s t i).1 h).1
theorem stands_empty (s : List UInt8) (i : Nat) (h : i ≤ s.length) : stands s [] i = true := by simp [stands, h]

/-- The least place from i on at which t stands. -/
def fnd (s t : List UInt8) (i : Nat) : Option Nat := (List.range' i (s.length + 1 - i)).find? (stands s t)

theorem fnd_hit {s t : List UInt8} {i : Nat} (h : stands s t i = true) : fnd s t i = some i := by
  have h1 := stands_le h
  unfold fnd
  have h2 : s.length + 1 - i = (s.length - i) + 1 := by omega
  rw [h2, List.range'_succ, List.find?_cons]
  simp [h]
theorem fnd_miss {s t : List UInt8} {i : Nat} (h : stands s t i = false) : fnd s t i = fnd s t (i + 1) := by
  unfold fnd
  rcases Nat.lt_or_ge s.length i with hi | hi
  · have e1 : s.length + 1 - i = 0 := by omega
    have e2 : s.length + 1 - (i + 1) = 0 := by omega
    rw [e1, e2]
    rfl
  · have h2 : s.length + 1 - i = (s.length + 1 - (i + 1)) + 1 := by omega
    rw [h2, List.range'_succ, List.find?_cons]
    simp [h]
theorem fnd_skip {s t : List UInt8} : ∀ (d : Nat) (i : Nat), (∀ j, i ≤ j → j < i + d → stands s t j = false) → fnd s t i = fnd s t (i + d)
  | 0, _, _ => rfl
  | d + 1, i, h => by
    rw [fnd_miss (h i (Nat.le_refl _) (by omega)), fnd_skip d (i + 1) (fun j h1 h2 => h j (by omega) (by omega))]
    congr 1
    omega
theorem fnd_none {s t : List UInt8} {i : Nat} (h : ∀ j, i ≤ j → stands s t j = false) : fnd s t i = none := by
  unfold fnd
  rw [List.find?_eq_none]
  intro x hx
  rw [List.mem_range'] at hx
  obtain ⟨k, _, rfl⟩ := hx
  rw [h _ (by omega)]
  simp
theorem fnd_end {s t : List UInt8} {i : Nat} (h : s.length < i + t.length) : fnd s t i = none :=
  fnd_none fun j hj => by
    cases hs : stands s t j
    · rfl
    · have := stands_le hs; omega
theorem fnd_some_aux {s t : List UInt8} {j : Nat} : ∀ (d i : Nat), d = s.length + 1 - i → fnd s t i = some j → i ≤ j ∧ stands s t j = true ∧ ∀ k, i ≤ k → k < j → stands s t k = false
  | 0, i, hd, h => by
    unfold fnd at h
    rw [← hd] at h
    simp at h
  | d + 1, i, hd, h => by
    cases hs : stands s t i
    · rw [fnd_miss hs] at h
      obtain ⟨h1, h2, h3⟩ := fnd_some_aux d (i + 1) (by omega) h
      refine ⟨by omega, h2, fun k hk1 hk2 => ?_⟩
      rcases Nat.lt_or_ge i k with hk | hk
      · exact h3 k (by omega) hk2
      · have : k = i := by omega
        rw [this]; exact hs
    · rw [fnd_hit hs] at h
      injection h with h
      subst h
      exact ⟨Nat.le_refl _, hs, fun k h1 h2 => by omega⟩
theorem fnd_some {s t : List UInt8} {i j : Nat} (h : fnd s t i = some j) : i ≤ j ∧ stands s t j = true ∧ ∀ k, i ≤ k → k < j → stands s t k = false :=
  fnd_some_aux _ i rfl h

/-- The shift of a byte when the first k bytes of t have been looked at. -/
def shAt (t : List UInt8) : Nat → UInt8 → Nat
  | 0, _ => t.length
  | k + 1, b => if t.getD k 0 = b then t.length - 1 - k else shAt t k b

theorem shAt_le (t : List UInt8) (k : Nat) (b : UInt8) : shAt t k b ≤ t.length := by
  induction k with
  | zero => exact Nat.le_refl _
  | succ k ih => unfold shAt; split <;> omega
theorem shAt_pos (t : List UInt8) (k : Nat) (b : UInt8) (h : k + 1 ≤ t.length) : 1 ≤ shAt t k b := by
  induction k with
  | zero => unfold shAt; omega
  | succ k ih => unfold shAt; have := ih (by omega); split <;> omega
theorem shAt_min (t : List UInt8) (k : Nat) (b : UInt8) (h : k + 1 ≤ t.length) : ∀ j, j < k → t.getD j 0 = b → shAt t k b ≤ t.length - 1 - j := by
  induction k with
  | zero => intro j hj; omega
  | succ k ih =>
    intro j hj hb
    unfold shAt
    split
    · omega
    · rename_i hn
      have hjk : j ≠ k := fun e => hn (by rw [← e]; exact hb)
      exact ih (by omega) j (by omega) hb

/-- The shift of a byte. -/
def shift (t : List UInt8) (b : UInt8) : Nat := shAt t (t.length - 1) b

/-- Where t lies at place i and doesn't stand there, it stands at no place that the shift passes over. -/
theorem shift_skips {s t : List UInt8} {i : Nat} (ht : 0 < t.length) (_h : i + t.length ≤ s.length) (j : Nat) (h1 : i < j) (h2 : j < i + shift t (s.getD (i + t.length - 1) 0)) : stands s t j = false := by
  cases hs : stands s t j
  · rfl
  · exfalso
    obtain ⟨hl, hc⟩ := (stands_iff s t j).1 hs
    have hle := shAt_le t (t.length - 1) (s.getD (i + t.length - 1) 0)
    unfold shift at h2
    have hx := hc (i + t.length - 1 - j) (by omega)
    have e1 : j + (i + t.length - 1 - j) = i + t.length - 1 := by omega
    rw [e1] at hx
    have hb : t.getD (i + t.length - 1 - j) 0 = s.getD (i + t.length - 1) 0 := by
      rw [List.getD_eq_getElem?_getD, List.getD_eq_getElem?_getD, hx]
    have := shAt_min t (t.length - 1) (s.getD (i + t.length - 1) 0) (by omega) (i + t.length - 1 - j) (by omega) hb
    omega

theorem fnd_shift {s t : List UInt8} {i : Nat} (ht : 0 < t.length) (h : i + t.length ≤ s.length) (hn : stands s t i = false) : fnd s t i = fnd s t (i + shift t (s.getD (i + t.length - 1) 0)) :=
  fnd_skip _ _ fun j h1 h2 => by
    rcases Nat.lt_or_ge i j with hj | hj
    · exact shift_skips ht h j hj h2
    · have : j = i := by omega
      rw [this]; exact hn

/-- As an int: -1 where there is none. -/
def fI : Option Nat → Int
  | some j => j
  | none => -1

/-- The places, each sought so far behind the one ahead. -/
def eachL (s t : List UInt8) (step : Nat) : Nat → Nat → List Nat
  | 0, _ => []
  | f + 1, p => match fnd s t p with
    | none => []
    | some j => j :: eachL s t step f (j + step)

theorem eachL_none {s t : List UInt8} {step f p : Nat} (h : fnd s t p = none) : eachL s t step f p = [] := by
  cases f with
  | zero => rfl
  | succ f => unfold eachL; rw [h]
theorem eachL_some {s t : List UInt8} {step f p j : Nat} (h : fnd s t p = some j) : eachL s t step (f + 1) p = j :: eachL s t step f (j + step) := by
  rw [eachL, h]
theorem eachL_miss {s t : List UInt8} {step f p : Nat} (h : stands s t p = false) : eachL s t step f p = eachL s t step f (p + 1) := by
  cases f with
  | zero => rfl
  | succ f => rw [eachL, eachL, fnd_miss h]

/-- All places. -/
def allL (s t : List UInt8) (k : Nat) : List Nat := (List.range k).filter (stands s t)
theorem allL_succ (s t : List UInt8) (k : Nat) : allL s t (k + 1) = allL s t k ++ (if stands s t k then [k] else []) := by
  unfold allL
  rw [List.range_succ, List.filter_append]
  congr 1
  simp only [List.filter_cons, List.filter_nil]

/-- With step 1 they are all. -/
theorem eachL_all (s t : List UInt8) : ∀ (d f p : Nat), d = s.length + 1 - p → s.length + 2 ≤ f + p → allL s t p ++ eachL s t 1 f p = allL s t (max p (s.length + 1))
  | 0, f, p, hd, _ => by
    have hn : fnd s t p = none := fnd_none fun j hj => by
      cases hs : stands s t j
      · rfl
      · have := stands_le hs; omega
    rw [eachL_none hn, List.append_nil, Nat.max_eq_left (by omega)]
  | d + 1, f, p, hd, hf => by
    cases hs : stands s t p
    · have e1 := eachL_all s t d f (p + 1) (by omega) (by omega)
      rw [eachL_miss hs]
      rw [allL_succ, hs] at e1
      simp only [Bool.false_eq_true, ↓reduceIte, List.append_nil] at e1
      rw [e1, Nat.max_eq_right (by omega), Nat.max_eq_right (by omega)]
    · obtain ⟨g, rfl⟩ : ∃ g, f = g + 1 := ⟨f - 1, by omega⟩
      have e1 := eachL_all s t d g (p + 1) (by omega) (by omega)
      rw [eachL_some (fnd_hit hs)]
      rw [allL_succ, hs] at e1
      simp only [↓reduceIte, List.append_assoc, List.cons_append, List.nil_append] at e1
      rw [e1, Nat.max_eq_right (by omega), Nat.max_eq_right (by omega)]

end Go.Proofs.Ytceolkbekmlhdaa
