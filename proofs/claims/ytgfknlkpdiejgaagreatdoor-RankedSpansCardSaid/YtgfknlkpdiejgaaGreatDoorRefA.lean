/- The reference's Bits and Made as contracts over the sets' bytes. No condition. -/
import Derived.Test.YtgfknlkpdiejgaaGreatDoorOctetRef
import Derived.Test.YtgfknlkpdiejgaaGreatDoorSetB
import Derived.StillTailTactics
import Derived.Deep.WholeRow
namespace Go.Proofs.YtgfknlkpdiejgaaGreatDoor
open Go.RowKit

/-- 256 bools as cells. -/
def bC (p : Nat → Bool) : Array Value := ((List.range 256).map fun b => Value.bool (p b)).toArray
theorem bC_size (p : Nat → Bool) : (bC p).size = 256 := by unfold bC; simp
theorem bC_get (p : Nat → Bool) (i : Nat) (h : i < 256) : (bC p)[i]? = some (.bool (p i)) := by unfold bC; simp [h]
theorem bC_one (p : Nat → Bool) : (bC p).all (·.oneCell') = true := by
  rw [Array.all_eq_true_iff_forall_mem]
  intro x hx
  unfold bC at hx
  simp only [List.mem_toArray, List.mem_map] at hx
  obtain ⟨b, _, rfl⟩ := hx
  rfl
theorem bC_congr {p q : Nat → Bool} (h : ∀ b, b < 256 → p b = q b) : bC p = bC q := by
  unfold bC
  congr 1
  apply List.map_congr_left
  intro b hb
  rw [h b (List.mem_range.1 hb)]
theorem bC_set (p q : Nat → Bool) (i : Nat) (v : Bool) (hv : q i = v) (hq : ∀ b, b ≠ i → q b = p b) : (bC p).setIfInBounds i (.bool v) = bC q := by
  apply Array.ext_getElem?
  intro j
  rw [Array.getElem?_setIfInBounds, bC_size]
  rcases Nat.lt_or_ge j 256 with hj | hj
  · rw [bC_get _ _ hj]
    split
    · rename_i h; subst h; rw [bC_get _ _ hj, hv, if_pos hj]
    · rename_i h; rw [bC_get _ _ hj, hq j (fun e => h e.symm)]
  · have e1 : ∀ r : Nat → Bool, (bC r)[j]? = none := fun r => Array.getElem?_eq_none (by rw [bC_size]; exact hj)
    rw [e1, e1]
    split
    · rw [if_neg (by omega)]
    · rfl
theorem bC_none : bC (fun _ => false) = Array.replicate 256 (.bool false) := by
  apply Array.ext_getElem?
  intro j
  rcases Nat.lt_or_ge j 256 with hj | hj
  · rw [bC_get _ _ hj]; simp [hj]
  · rw [Array.getElem?_eq_none (by rw [bC_size]; exact hj), Array.getElem?_eq_none (by simpa using hj)]
theorem bC_sz (p q : Nat → Bool) : (bC p).size = (bC q).size := by rw [bC_size, bC_size]
theorem bit_div (p : Nat → Bool) (k : Nat) : ((wd p (k / 64) : Int) / (p2 (k % 64) : Int) % 2 == 1) = p k := by
  have h := wd_bit p (k / 64) (k % 64) (by omega)
  have e : 64 * (k / 64) + k % 64 = k := by omega
  rw [e, Nat.testBit_eq_decide_div_mod_eq] at h
  rw [← h]
  unfold p2
  rw [Bool.eq_iff_iff, beq_iff_eq, decide_eq_true_eq]
  rw [← Int.natCast_ediv]
  generalize wd p (k / 64) / 2 ^ (k % 64) = y
  omega
theorem p2_pos (k : Nat) : 1 ≤ p2 k := Nat.one_le_two_pow
/-- The bytes below k. -/
def lowB (p : Nat → Bool) (k : Nat) : Nat → Bool := fun b => decide (b < k) && p b
theorem lowB_zero (p : Nat → Bool) : lowB p 0 = fun _ => false := by funext b; simp [lowB]
theorem lowB_full (p : Nat → Bool) (k : Nat) (h : 256 ≤ k) : bC (lowB p k) = bC p := bC_congr fun b hb => by
  unfold lowB
  have : decide (b < k) = true := by simp; omega
  rw [this, Bool.true_and]
theorem lowB_at (p : Nat → Bool) (k : Nat) : lowB p (k + 1) k = p k := by simp [lowB]
theorem lowB_ne (p : Nat → Bool) (k b : Nat) (h : b ≠ k) : lowB p (k + 1) b = lowB p k b := by
  unfold lowB
  have : decide (b < k + 1) = decide (b < k) := by rw [decide_eq_decide]; omega
  rw [this]

theorem lowB_same (p : Nat → Bool) (k : Nat) (h : p k = false) : lowB p (k + 1) = lowB p k := by
  funext b
  by_cases hb : b = k
  · subst hb; rw [lowB_at, h]; simp [lowB]
  · exact lowB_ne p k b hb
theorem lowB_setC (p : Nat → Bool) (k : Nat) (h : 256 ≤ k) : setC (lowB p k) = setC p := by
  have : ∀ i, i < 4 → wd (lowB p k) i = wd p i := fun i hi => wd_congr fun j hj => by
    unfold lowB
    have : decide (64 * i + j < k) = true := by simp; omega
    rw [this, Bool.true_and]
  unfold setC
  rw [this 0 (by omega), this 1 (by omega), this 2 (by omega), this 3 (by omega)]
theorem lowB_add (p : Nat → Bool) (k : Nat) (h : p k = true) : wd (lowB p k) (k / 64) + p2 (k % 64) = wd (lowB p (k + 1)) (k / 64) := by
  have hlt : wd (lowB p k) (k / 64) < 2 ^ (k % 64) := by
    apply Nat.lt_pow_two_of_testBit
    intro i hi
    by_cases h64 : i < 64
    · rw [wd_bit _ _ _ h64]
      unfold lowB
      have : decide (64 * (k / 64) + i < k) = false := by simp; omega
      rw [this, Bool.false_and]
    · exact Nat.testBit_lt_two_pow (Nat.lt_of_lt_of_le (wd_lt _ _) (Nat.pow_le_pow_right (n := 2) (by decide) (show 64 ≤ i by omega)))
  have e : lowB p (k + 1) = insB (lowB p k) k := by
    funext b
    unfold insB
    by_cases hb : b = k
    · subst hb; rw [lowB_at, h]; simp
    · have : (b == k) = false := by simpa using hb
      rw [this, Bool.or_false, lowB_ne p k b hb]
  rw [e, ← wd_ins, Nat.or_comm]
  have := Nat.two_pow_add_eq_or_of_lt hlt 1
  rw [Nat.mul_one] at this
  unfold p2
  omega

end Go.Proofs.YtgfknlkpdiejgaaGreatDoor
