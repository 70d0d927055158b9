/- The reference's Made as a contract over the set's bytes. No condition. -/
import Derived.Test.YtgfknlkpdiejgaaGreatDoorRefA
namespace Go.Proofs.YtgfknlkpdiejgaaGreatDoor
open Go.RowKit

/-- One up to k, another one behind. -/
def upB (q p : Nat → Bool) (k : Nat) : Nat → Bool := fun b => if b < k then q b else p b
theorem upB_zero (q p : Nat → Bool) : upB q p 0 = p := by funext b; simp [upB]
theorem upB_full (q p : Nat → Bool) (k : Nat) (h : 256 ≤ k) : bC (upB q p k) = bC q := bC_congr fun b hb => by unfold upB; rw [if_pos (by omega)]
theorem upB_at (q p : Nat → Bool) (k : Nat) : upB q p (k + 1) k = q k := by simp [upB]
theorem upB_here (q p : Nat → Bool) (k : Nat) : upB q p k k = p k := by simp [upB]
theorem upB_ne (q p : Nat → Bool) (k b : Nat) (h : b ≠ k) : upB q p (k + 1) b = upB q p k b := by
  unfold upB
  by_cases hb : b < k
  · rw [if_pos hb, if_pos (by omega)]
  · rw [if_neg hb, if_neg (by omega)]
end Go.Proofs.YtgfknlkpdiejgaaGreatDoor
