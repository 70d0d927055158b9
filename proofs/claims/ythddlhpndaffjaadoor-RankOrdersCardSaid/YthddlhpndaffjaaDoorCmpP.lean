/- The order of parses in plain words: it is an order. No program. -/
import Derived.Test.YthddlhpndaffjaaDoorPsP
namespace Go.Proofs.YthddlhpndaffjaaDoor

def cmpI (x y : Int) : Int := if x < y then -1 else if y < x then 1 else 0
def lexI (x y : Int) : Int := if x = 0 then y else x
def cmpH (d d' : Pd) : Int := lexI (cmpI d.a d'.a) (lexI (cmpI d'.b d.b) (cmpI d.k d'.k))
mutual
def cmpN : Ps → Ps → Int
  | .mk d s, .mk d' s' => lexI (lexI (cmpH d d') (cmpL s s')) (cmpI s'.length s.length)
def cmpL : List Ps → List Ps → Int
  | [], _ => 0
  | _ :: _, [] => 0
  | a :: r, b :: r' => lexI (cmpN a b) (cmpL r r')
end
mutual
def samePs : Ps → Ps → Bool
  | .mk d s, .mk d' s' => decide (d.a = d'.a ∧ d.b = d'.b ∧ d.k = d'.k) && decide (s.length = s'.length) && samePL s s'
def samePL : List Ps → List Ps → Bool
  | [], _ => true
  | _ :: _, [] => true
  | a :: r, b :: r' => samePs a b && samePL r r'
end
theorem cmpI_zero (x y : Int) : cmpI x y = 0 ↔ x = y := by unfold cmpI; split <;> (try split) <;> omega
theorem cmpI_anti (x y : Int) : cmpI y x = -cmpI x y := by unfold cmpI; split <;> split <;> (try split) <;> omega
theorem cmpI_rng (x y : Int) : -1 ≤ cmpI x y ∧ cmpI x y ≤ 1 := by unfold cmpI; split <;> (try split) <;> omega
theorem lexI_assoc (x y z : Int) : lexI (lexI x y) z = lexI x (lexI y z) := by unfold lexI; split <;> (try split) <;> simp_all
theorem lexI_neg (x y : Int) : lexI (-x) (-y) = -lexI x y := by unfold lexI; split <;> split <;> omega
theorem lexI_rng {x y : Int} (hx : -1 ≤ x ∧ x ≤ 1) (hy : -1 ≤ y ∧ y ≤ 1) : -1 ≤ lexI x y ∧ lexI x y ≤ 1 := by unfold lexI; split <;> omega
theorem lexI_zero (x y : Int) : lexI x y = 0 ↔ x = 0 ∧ y = 0 := by unfold lexI; split <;> omega
theorem cmpL_app : ∀ (a b c d : List Ps), a.length = b.length → cmpL (a ++ c) (b ++ d) = lexI (cmpL a b) (cmpL c d)
  | [], [], _, _, _ => by simp [cmpL, lexI]
  | x :: a, y :: b, c, d, h => by
    show cmpL (x :: (a ++ c)) (y :: (b ++ d)) = _
    rw [cmpL, cmpL, cmpL_app a b c d (by simpa using h), lexI_assoc]
  | [], _ :: _, _, _, h => by cases h
  | _ :: _, [], _, _, h => by cases h
theorem cmpL_one (a b : Ps) : cmpL [a] [b] = cmpN a b := by rw [cmpL, cmpL]; unfold lexI; split <;> omega
theorem cmpH_rng (d d' : Pd) : -1 ≤ cmpH d d' ∧ cmpH d d' ≤ 1 := lexI_rng (cmpI_rng _ _) (lexI_rng (cmpI_rng _ _) (cmpI_rng _ _))
mutual
theorem cmpN_rng : ∀ (a b : Ps), -1 ≤ cmpN a b ∧ cmpN a b ≤ 1
  | .mk d s, .mk d' s' => by rw [cmpN]; exact lexI_rng (lexI_rng (cmpH_rng _ _) (cmpL_rng s s')) (cmpI_rng _ _)
theorem cmpL_rng : ∀ (a b : List Ps), -1 ≤ cmpL a b ∧ cmpL a b ≤ 1
  | [], _ => by rw [cmpL]; omega
  | _ :: _, [] => by rw [cmpL]; omega
  | a :: r, b :: r' => by rw [cmpL]; exact lexI_rng (cmpN_rng a b) (cmpL_rng r r')
end
theorem cmpH_anti (d d' : Pd) : cmpH d' d = -cmpH d d' := by
  unfold cmpH
  rw [cmpI_anti d.a d'.a, cmpI_anti d'.b d.b, cmpI_anti d.k d'.k, lexI_neg, lexI_neg]
mutual
theorem cmpN_anti : ∀ (a b : Ps), cmpN b a = -cmpN a b
  | .mk d s, .mk d' s' => by rw [cmpN, cmpN, cmpH_anti d d', cmpL_anti s s', cmpI_anti (s'.length : Int) s.length, lexI_neg, lexI_neg]
theorem cmpL_anti : ∀ (a b : List Ps), cmpL b a = -cmpL a b
  | [], [] => by simp [cmpL]
  | [], _ :: _ => by simp [cmpL]
  | _ :: _, [] => by simp [cmpL]
  | a :: r, b :: r' => by rw [cmpL, cmpL, cmpN_anti a b, cmpL_anti r r', lexI_neg]
end
theorem cmpH_zero (d d' : Pd) : cmpH d d' = 0 ↔ (d.a = d'.a ∧ d.b = d'.b ∧ d.k = d'.k) := by
  unfold cmpH
  rw [lexI_zero, lexI_zero, cmpI_zero, cmpI_zero, cmpI_zero]
  constructor
  · rintro ⟨h1, h2, h3⟩; exact ⟨h1, h2.symm, h3⟩
  · rintro ⟨h1, h2, h3⟩; exact ⟨h1, h2.symm, h3⟩
mutual
theorem cmpN_same : ∀ (a b : Ps), samePs a b = decide (cmpN a b = 0)
  | .mk d s, .mk d' s' => by
    rw [Bool.eq_iff_iff]
    rw [samePs, cmpN, Bool.and_eq_true, Bool.and_eq_true, cmpL_same s s', decide_eq_true_eq, decide_eq_true_eq, decide_eq_true_eq, decide_eq_true_eq, lexI_zero, lexI_zero, cmpH_zero, cmpI_zero]
    constructor
    · rintro ⟨⟨h1, h2⟩, h3⟩; exact ⟨⟨h1, h3⟩, by omega⟩
    · rintro ⟨⟨h1, h3⟩, h2⟩; exact ⟨⟨h1, by omega⟩, h3⟩
theorem cmpL_same : ∀ (a b : List Ps), samePL a b = decide (cmpL a b = 0)
  | [], _ => by simp [samePL, cmpL]
  | _ :: _, [] => by simp [samePL, cmpL]
  | a :: r, b :: r' => by
    rw [samePL, cmpL, cmpN_same a b, cmpL_same r r', Bool.eq_iff_iff, Bool.and_eq_true, decide_eq_true_eq, decide_eq_true_eq, decide_eq_true_eq, lexI_zero]
end
mutual
theorem samePs_eq : ∀ (a b : Ps), samePs a b = true → a = b
  | .mk ⟨x, y, z⟩ s, .mk ⟨x', y', z'⟩ s', h => by
    rw [samePs, Bool.and_eq_true, Bool.and_eq_true, decide_eq_true_eq, decide_eq_true_eq] at h
    obtain ⟨⟨⟨h1, h2, h3⟩, h4⟩, h5⟩ := h
    simp only at h1 h2 h3
    rw [h1, h2, h3, samePL_eq s s' h4 h5]
theorem samePL_eq : ∀ (a b : List Ps), a.length = b.length → samePL a b = true → a = b
  | [], [], _, _ => rfl
  | a :: r, b :: r', hl, h => by
    rw [samePL, Bool.and_eq_true] at h
    rw [samePs_eq a b h.1, samePL_eq r r' (by simpa using hl) h.2]
  | [], _ :: _, h, _ => by cases h
  | _ :: _, [], h, _ => by cases h
end
theorem cmpN_eq {a b : Ps} (h : cmpN a b = 0) : a = b := samePs_eq a b (by rw [cmpN_same]; simpa using h)
theorem cmpN_refl (a : Ps) : cmpN a a = 0 := by
  have := cmpN_anti a a
  omega
/-- Both lists, the longer one better where one begins the other. -/
def cmpF (s s' : List Ps) : Int := lexI (cmpL s s') (cmpI s'.length s.length)
theorem cmpF_cons (a b : Ps) (r r' : List Ps) : cmpF (a :: r) (b :: r') = lexI (cmpN a b) (cmpF r r') := by
  unfold cmpF
  rw [cmpL, lexI_assoc]
  congr 2
  unfold cmpI
  simp only [List.length_cons]
  split <;> split <;> (try split) <;> (try split) <;> omega
theorem cmpN_F (d d' : Pd) (s s' : List Ps) : cmpN (.mk d s) (.mk d' s') = lexI (cmpH d d') (cmpF s s') := by rw [cmpN, lexI_assoc]; rfl
theorem cmpI_less {x y : Int} : cmpI x y = -1 ↔ x < y := by unfold cmpI; split <;> (try split) <;> omega
theorem lexI_less (x y : Int) : lexI x y = -1 ↔ x = -1 ∨ (x = 0 ∧ y = -1) := by unfold lexI; split <;> omega
theorem cmpH_less (d d' : Pd) : cmpH d d' = -1 ↔ d.a < d'.a ∨ (d.a = d'.a ∧ (d'.b < d.b ∨ (d'.b = d.b ∧ d.k < d'.k))) := by
  unfold cmpH
  rw [lexI_less, lexI_less, cmpI_less, cmpI_less, cmpI_less, cmpI_zero, cmpI_zero]
theorem cmpH_trans {a b c : Pd} (h : cmpH a b = -1) (k : cmpH b c = -1) : cmpH a c = -1 := by
  rw [cmpH_less] at *
  omega
theorem cmpH_l {a b c : Pd} (h : cmpH a b = 0) : cmpH a c = cmpH b c := by
  obtain ⟨h1, h2, h3⟩ := (cmpH_zero _ _).1 h
  unfold cmpH
  rw [h1, h2, h3]
theorem cmpH_r {a b c : Pd} (h : cmpH b c = 0) : cmpH a b = cmpH a c := by
  obtain ⟨h1, h2, h3⟩ := (cmpH_zero _ _).1 h
  unfold cmpH
  rw [h1, h2, h3]
mutual
theorem cmpN_trans : ∀ (a b c : Ps), cmpN a b = -1 → cmpN b c = -1 → cmpN a c = -1
  | .mk d s, .mk d' s', .mk d'' s'', h, k => by
    rw [cmpN_F, lexI_less] at *
    rcases h with h | ⟨h, h'⟩
    · rcases k with k | ⟨k, k'⟩
      · exact .inl (cmpH_trans h k)
      · exact .inl ((cmpH_r k).symm.trans h)
    · rcases k with k | ⟨k, k'⟩
      · exact .inl ((cmpH_l h).trans k)
      · exact .inr ⟨(cmpH_l h).trans k, cmpF_trans s s' s'' h' k'⟩
theorem cmpF_trans : ∀ (a b c : List Ps), cmpF a b = -1 → cmpF b c = -1 → cmpF a c = -1
  | [], [], _, h, k => by simp [cmpF, cmpL, lexI, cmpI] at h
  | [], b :: r', _, h, k => by simp [cmpF, cmpL, lexI, cmpI] at h; omega
  | a :: r, [], [], h, k => by simp [cmpF, cmpL, lexI, cmpI] at k
  | a :: r, [], c :: r'', h, k => by simp [cmpF, cmpL, lexI, cmpI] at k; omega
  | a :: r, b :: r', [], h, k => by simp [cmpF, cmpL, lexI, cmpI]
  | a :: r, b :: r', c :: r'', h, k => by
    rw [cmpF_cons, lexI_less] at *
    rcases h with h | ⟨h, h'⟩
    · rcases k with k | ⟨k, k'⟩
      · exact .inl (cmpN_trans a b c h k)
      · exact .inl (cmpN_eq k ▸ h)
    · rcases k with k | ⟨k, k'⟩
      · exact .inl ((cmpN_eq h).symm ▸ k)
      · exact .inr ⟨(cmpN_eq h).symm ▸ k, cmpF_trans r r' r'' h' k'⟩
end
theorem cmpN_less {a b : Ps} (h : cmpN a b < 0) : cmpN a b = -1 := by have := cmpN_rng a b; omega
/-- Passed on to a third. -/
theorem cmpN_le {a b c : Ps} (h : cmpN a b ≤ 0) (k : cmpN b c ≤ 0) : cmpN a c ≤ 0 := by
  rcases Int.lt_or_eq_of_le h with h | h
  · rcases Int.lt_or_eq_of_le k with k | k
    · rw [cmpN_trans a b c (cmpN_less h) (cmpN_less k)]; decide
    · rw [← cmpN_eq k]; omega
  · rw [cmpN_eq h]; exact k
theorem cmpN_lt {a b c : Ps} (h : cmpN a b < 0) (k : cmpN b c ≤ 0) : cmpN a c < 0 := by
  rcases Int.lt_or_eq_of_le k with k | k
  · rw [cmpN_trans a b c (cmpN_less h) (cmpN_less k)]; decide
  · rw [← cmpN_eq k]; exact h

end Go.Proofs.YthddlhpndaffjaaDoor
