/- The reference's Count, First, Has, Range and Of as contracts over the sets' bytes. No condition but the text's length. -/
import Derived.Test.YtgfknlkpdiejgaaGreatDoorRefB
namespace Go.Proofs.YtgfknlkpdiejgaaGreatDoor
open Go.RowKit

/-- The least byte from k on. -/
def fstB (p : Nat → Bool) : Nat → Nat → Option Nat
  | 0, _ => none
  | f + 1, k => if p k = true then some k else fstB p f (k + 1)
def fstI : Option Nat → Int
  | none => -1
  | some k => k
theorem fstB_hit {p : Nat → Bool} {f k : Nat} (h : p k = true) : fstB p (f + 1) k = some k := by unfold fstB; rw [if_pos h]
theorem fstB_miss {p : Nat → Bool} {f k : Nat} (h : p k = false) : fstB p (f + 1) k = fstB p f (k + 1) := by
  have : fstB p (f + 1) k = if p k = true then some k else fstB p f (k + 1) := rfl
  rw [this, h]; rfl
theorem fstB_none {p : Nat → Bool} : ∀ {f k : Nat}, (∀ j, k ≤ j → j < k + f → p j = false) → fstB p f k = none
  | 0, _, _ => rfl
  | f + 1, k, h => by
    rw [fstB_miss (h k (by omega) (by omega))]
    exact fstB_none fun j h1 h2 => h j (by omega) (by omega)
theorem fstB_some {p : Nat → Bool} : ∀ {f k m : Nat}, k ≤ m → m < k + f → p m = true → (∀ j, k ≤ j → j < m → p j = false) → fstB p f k = some m
  | 0, _, _, h1, h2, _, _ => by omega
  | f + 1, k, m, h1, h2, hm, h => by
    by_cases e : k = m
    · subst e; exact fstB_hit hm
    · rw [fstB_miss (h k (by omega) (by omega))]
      exact fstB_some (by omega) (by omega) hm fun j a b => h j (by omega) b

end Go.Proofs.YtgfknlkpdiejgaaGreatDoor
