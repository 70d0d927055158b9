/- The depth of a tree, in plain words. No program. -/
import Derived.Test.YtkcgbdoplhgbmaaDoorForm
namespace Go.Proofs.YtkcgbdoplhgbmaaDoor

/-- Does a repeat count once more? -/
def deepB (h : Hd) (len : Nat) : Bool := decide (h.kind = 8) && decide (0 < len) && (decide (h.min ≠ 0) || (decide (h.max ≠ 1) && decide (h.max ≠ -1)))
mutual
def depthN : Nd → Int
  | .mk h subs => depthA 0 subs + (if deepB h subs.length = true then 1 else 0) + 1
def depthA : Int → List Nd → Int
  | a, [] => a
  | a, n :: r => depthA (Max.max a (depthN n)) r
end
theorem depthA_app : ∀ (a : Int) (l r : List Nd), depthA a (l ++ r) = depthA (depthA a l) r
  | _, [], _ => rfl
  | a, n :: l, r => by
    show depthA a (n :: (l ++ r)) = depthA (depthA a (n :: l)) r
    rw [depthA, depthA, depthA_app _ l r]
mutual
/-- A tree of few nodes is not deep. -/
theorem depthN_few : ∀ (n : Nd) (m : Int), 0 ≤ leftN n m → 1 ≤ depthN n ∧ depthN n ≤ 2 * (m - leftN n m)
  | .mk h subs, m, hl => by
    unfold leftN at hl ⊢
    have := depthA_few subs (m - 1) 0 hl (by omega)
    have h2 := leftL_len subs (m - 1) hl
    unfold depthN
    split <;> omega
theorem depthA_few : ∀ (l : List Nd) (m a : Int), 0 ≤ leftL l m → 0 ≤ a → a ≤ depthA a l ∧ depthA a l ≤ Max.max a (2 * (m - leftL l m))
  | [], m, a, hl, h0 => by unfold leftL depthA; omega
  | n :: r, m, a, hl, h0 => by
    by_cases hm : 0 ≤ m
    · rw [leftL, if_pos hm] at hl ⊢
      have h2 : 0 ≤ leftN n m := by
        rcases Int.lt_or_le (leftN n m) 0 with h3 | h3
        · rw [leftL_neg _ _ h3] at hl; omega
        · exact h3
      have h3 := depthN_few n m h2
      have h4 := leftL_range r (leftN n m) (by omega)
      have h5 := depthA_few r (leftN n m) (Max.max a (depthN n)) hl (by omega)
      rw [depthA]
      omega
    · rw [leftL_neg _ _ (by omega)] at hl
      omega
end

end Go.Proofs.YtkcgbdoplhgbmaaDoor
