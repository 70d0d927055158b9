/- tree.size as a contract. Condition: the tree lies in memory, its lists are short, it is in form. -/
import Derived.Test.YtgfknlkpdiejgaaDoorRounds
namespace Go.Proofs.YtgfknlkpdiejgaaDoor
open Go.RowKit

mutual
def sizeN : Nd → Int
  | .mk h subs => if h.kind = 8 ∧ h.max = 0 then 1 else Min.min (if h.kind = 8 then roundsZ h (sizeA 0 subs) else sizeA 0 subs + 1) 2001
def sizeA : Int → List Nd → Int
  | a, [] => a
  | a, n :: r => sizeA (Min.min (a + sizeN n) 2001) r
end
theorem sizeA_app : ∀ (a : Int) (l r : List Nd), sizeA a (l ++ r) = sizeA (sizeA a l) r
  | _, [], _ => rfl
  | a, n :: l, r => by
    show sizeA a (n :: (l ++ r)) = sizeA (sizeA a (n :: l)) r
    rw [sizeA, sizeA, sizeA_app _ l r]
theorem rounds_nonneg (h : Hd) (n : Int) (h0 : 0 ≤ h.min) (h2 : h.max = -1 ∨ h.min ≤ h.max) (hn : 0 ≤ n) : 0 ≤ roundsZ h n := by
  have m1 : 0 ≤ h.min * n := Int.mul_nonneg h0 hn
  unfold roundsZ
  split
  · exact hn
  · split
    · omega
    · split
      · omega
      · have m3 : 0 ≤ (h.max - h.min) * (1 + n) := Int.mul_nonneg (by omega) (by omega)
        omega
theorem formed_rep {h : Hd} {l : Nat} (hf : formedB h l = true) (hk : h.kind = 8) : 0 ≤ h.min ∧ h.min ≤ 255 ∧ (h.max = -1 ∨ (h.min ≤ h.max ∧ h.max ≤ 255)) := by
  unfold formedB at hf
  rw [if_neg (by omega), if_neg (by omega), if_neg (by omega), if_neg (by omega), if_pos hk] at hf
  simp only [Bool.and_eq_true, Bool.or_eq_true, decide_eq_true_eq] at hf
  obtain ⟨⟨⟨⟨_, h1⟩, h2⟩, _⟩, h3⟩ := hf
  exact ⟨h1, h2, h3⟩
mutual
theorem sizeN_range : ∀ (n : Nd), formB n = true → 0 ≤ sizeN n ∧ sizeN n ≤ 2001
  | .mk h subs, hf => by
    rw [formB, Bool.and_eq_true] at hf
    have h1 := sizeA_range subs 0 hf.2 (by omega) (by omega)
    unfold sizeN
    split
    · omega
    · split
      · rename_i hk
        obtain ⟨r1, _, r3⟩ := formed_rep hf.1 hk
        have := rounds_nonneg h (sizeA 0 subs) r1 (r3.imp id (·.1)) h1.1
        omega
      · omega
theorem sizeA_range : ∀ (l : List Nd) (a : Int), formL l = true → 0 ≤ a → a ≤ 2001 → 0 ≤ sizeA a l ∧ sizeA a l ≤ 2001
  | [], a, _, h0, h1 => by unfold sizeA; omega
  | n :: r, a, hf, h0, h1 => by
    rw [formL, Bool.and_eq_true] at hf
    have h2 := sizeN_range n hf.1
    rw [sizeA]
    exact sizeA_range r _ hf.2 (by omega) (by omega)
end

end Go.Proofs.YtgfknlkpdiejgaaDoor
