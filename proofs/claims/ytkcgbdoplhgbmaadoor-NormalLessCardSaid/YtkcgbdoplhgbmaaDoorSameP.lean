/- Trees alike, in plain words. No program. -/
import Derived.Test.YtkcgbdoplhgbmaaDoorExpP
namespace Go.Proofs.YtkcgbdoplhgbmaaDoor

def wordsB (p q : Nat → Bool) : Bool := decide ((wd p 0 : Int) = (wd q 0 : Int) ∧ (wd p 1 : Int) = (wd q 1 : Int) ∧ (wd p 2 : Int) = (wd q 2 : Int) ∧ (wd p 3 : Int) = (wd q 3 : Int))
def sameH (h h' : Hd) : Bool := decide (h.kind = h'.kind) && wordsB h.set h'.set && decide (h.num = h'.num) && decide (h.min = h'.min) && decide (h.max = h'.max) && (h.bare == h'.bare)
mutual
def sameN : Nd → Nd → Bool
  | .mk h s, .mk h' s' => sameH h h' && decide (s.length = s'.length) && sameL s s'
def sameL : List Nd → List Nd → Bool
  | [], _ => true
  | _ :: _, [] => true
  | a :: r, b :: r' => sameN a b && sameL r r'
end
theorem wordsB_refl (p : Nat → Bool) : wordsB p p = true := by simp [wordsB]
theorem sameH_refl (h : Hd) : sameH h h = true := by simp [sameH, wordsB_refl]
mutual
theorem sameN_refl : ∀ n, sameN n n = true
  | .mk h s => by simp [sameN, sameH_refl, sameL_refl s]
theorem sameL_refl : ∀ l, sameL l l = true
  | [] => by simp [sameL]
  | a :: r => by simp [sameL, sameN_refl a, sameL_refl r]
end
theorem sameL_app : ∀ (a b c d : List Nd), a.length = b.length → sameL (a ++ c) (b ++ d) = (sameL a b && sameL c d)
  | [], [], _, _, _ => by simp [sameL]
  | x :: a, y :: b, c, d, h => by
    show sameL (x :: (a ++ c)) (y :: (b ++ d)) = _
    rw [sameL, sameL, sameL_app a b c d (by simpa using h), Bool.and_assoc]
  | [], _ :: _, _, _, h => by cases h
  | _ :: _, [], _, _, h => by cases h
theorem sameL_one (a b : Nd) : sameL [a] [b] = sameN a b := by simp [sameL]
theorem sameL_step {s s' : List Nd} {k : Nat} (h : k < s.length) (h' : k < s'.length) (ht : sameL (s.take k) (s'.take k) = true) : sameL (s.take (k + 1)) (s'.take (k + 1)) = sameN s[k] s'[k] := by
  rw [take_snoc s k h, take_snoc s' k h', sameL_app _ _ _ _ (by simp; omega), ht, sameL_one, Bool.true_and]
theorem sameL_stop {s s' : List Nd} {k : Nat} (h : k < s.length) (h' : k < s'.length) (ht : sameN s[k] s'[k] = false) : sameL s s' = false := by
  have e : s = s.take k ++ s[k] :: s.drop (k + 1) := by rw [← List.drop_eq_getElem_cons h, List.take_append_drop]
  have e' : s' = s'.take k ++ s'[k] :: s'.drop (k + 1) := by rw [← List.drop_eq_getElem_cons h', List.take_append_drop]
  have h1 : sameL (s.take k ++ s[k] :: s.drop (k + 1)) (s'.take k ++ s'[k] :: s'.drop (k + 1)) = false := by
    rw [sameL_app _ _ _ _ (by simp; omega), sameL, ht, Bool.false_and, Bool.and_false]
  rw [← e, ← e'] at h1
  exact h1
theorem sameH_once {h h' : Hd} (hs : sameH h h' = true) : onceB h = onceB h' := by
  simp only [sameH, Bool.and_eq_true, decide_eq_true_eq] at hs
  obtain ⟨⟨⟨⟨⟨h1, _⟩, _⟩, h2⟩, h3⟩, _⟩ := hs
  simp only [onceB, h1, h2, h3]
mutual
theorem same_plain : ∀ (a b : Nd), sameN a b = true → plainN a = plainN b
  | .mk h s, .mk h' s', hs => by
    rw [sameN, Bool.and_eq_true, Bool.and_eq_true, decide_eq_true_eq] at hs
    rw [plainN, plainN, sameH_once hs.1.1, same_plainL s s' hs.1.2 hs.2]
theorem same_plainL : ∀ (a b : List Nd), a.length = b.length → sameL a b = true → plainL a = plainL b
  | [], [], _, _ => rfl
  | x :: a, y :: b, hl, hs => by
    rw [sameL, Bool.and_eq_true] at hs
    rw [plainL, plainL, same_plain x y hs.1, same_plainL a b (by simpa using hl) hs.2]
  | [], _ :: _, h, _ => by cases h
  | _ :: _, [], h, _ => by cases h
end
/-- A right tree is plain just if it is like its expansion. -/
theorem same_exp (n : Nd) (hf : formB n = true) : sameN (expN n) n = plainN n := by
  cases hp : plainN n
  · rw [Bool.eq_false_iff]
    intro h
    have := same_plain _ _ h
    rw [plain_exp n hf, hp] at this
    cases this
  · rw [exp_plain n hf hp, sameN_refl]

end Go.Proofs.YtkcgbdoplhgbmaaDoor
