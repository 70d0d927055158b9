/- The program's First as a contract over the set's bytes, where the library's table holds what it holds. -/
import Derived.Test.YtgfknlkpdiejgaaGreatDoorRefD
import Derived.Shelf.Spec.TrailingZeros
namespace Go.Proofs.YtgfknlkpdiejgaaGreatDoor
open Go.RowKit

/-- The library's table. -/
def Tab (w : World) : Prop := ∀ i, i < 64 → w.cell? ⟨21, i, none⟩ = some (.int .u8 (Lib.deBruijn64tab.getD i 0 : Nat))
theorem Tab.ext {w w' : World} (h : Tab w) (hx : Ext w w') : Tab w' := fun i hi => hx.cell (h i hi)

set_option maxHeartbeats 1000000 in
theorem tz_core (x n a b idx k : Nat) (w : World) (hz : ((x : Int) == 0) = false) (e1 : IntKind.u64.wrap (-(x : Int)) = (n : Int)) (e2 : bits .and .u64 (x : Int) (n : Int) = (a : Int)) (e3 : IntKind.u64.wrap ((a : Int) * 285870213051353865) = (b : Int)) (e4 : (b : Int) / 288230376151711744 = (idx : Int))
    (hi : idx < 64) (hk : k < 64) (hcell : w.cell? ⟨21, idx, none⟩ = some (.int .u8 k)) :
    Calls Tryz.prog 71 #[.int .u64 x] w fun e w' => e = .returned (.int .i64 k) ∧ w = w' := by
  go_enter Tryz.func71, Tryz.ntmps71
  go_wp2
  go_ret
  exact ⟨rfl, rfl⟩
theorem tz_any (x : Nat) (w : World) (hx : x < 18446744073709551616) (h0 : x ≠ 0) (hT : Tab w) :
    Calls Tryz.prog 71 #[.int .u64 x] w fun e w' => e = .returned (.int .i64 (Lib.ctz 64 x)) ∧ w = w' := by
  obtain ⟨hlow, hk⟩ := Lib.lowest_bit 64 x h0 hx
  obtain ⟨hi, htab⟩ := Lib.deBruijn64_at _ hk
  have hcell := hT _ hi
  rw [htab] at hcell
  refine tz_core x (18446744073709551616 - x) (2 ^ Lib.ctz 64 x) (2 ^ Lib.ctz 64 x * 285870213051353865 % 18446744073709551616) _ _ w (by simp; omega) ?_ ?_ ?_ ?_ hi hk hcell
  · rw [IntKind.wrap_u64]; omega
  · rw [u64_and_nat x _ hx (by omega)]
    exact congrArg _ hlow
  · rw [IntKind.wrap_u64]
    generalize 2 ^ Lib.ctz 64 x = y
    omega
  · generalize 2 ^ Lib.ctz 64 x * 285870213051353865 % 18446744073709551616 = y
    omega

theorem ctz_bits {x : Nat} (h0 : x ≠ 0) (hx : x < 18446744073709551616) : Lib.ctz 64 x < 64 ∧ x.testBit (Lib.ctz 64 x) = true ∧ ∀ j, j < Lib.ctz 64 x → x.testBit j = false := by
  obtain ⟨m, hm, hk⟩ := Lib.ctzFrom_spec 64 x (by omega) hx
  have e : Lib.ctz 64 x = Lib.ctzFrom 64 x := by simp [Lib.ctz, h0]
  rw [e]
  generalize Lib.ctzFrom 64 x = c at *
  refine ⟨hk, ?_, fun j hj => ?_⟩
  · rw [hm, Nat.mul_comm, Nat.testBit_mul_two_pow]
    simp [Nat.testBit_zero]
  · rw [hm, Nat.mul_comm, Nat.testBit_mul_two_pow]
    have : decide (j ≥ c) = false := by simp; omega
    rw [this, Bool.false_and]
theorem wd_zero {p : Nat → Bool} {i : Nat} (h : wd p i = 0) (b : Nat) (h1 : 64 * i ≤ b) (h2 : b < 64 * i + 64) : p b = false := by
  have := wd_bit p i (b - 64 * i) (by omega)
  rw [h, Nat.zero_testBit] at this
  rw [this]
  congr 1
  omega
theorem fst_word {p : Nat → Bool} {i : Nat} (hi : i < 4) (h : ∀ j, j < i → wd p j = 0) (h0 : wd p i ≠ 0) : Lib.ctz 64 (wd p i) < 64 ∧ fstB p 256 0 = some (64 * i + Lib.ctz 64 (wd p i)) := by
  obtain ⟨h1, h2, h3⟩ := ctz_bits h0 (wd_lt p i)
  refine ⟨h1, fstB_some (by omega) (by omega) ?_ fun b _ hb => ?_⟩
  · rw [← wd_bit p i _ h1]; exact h2
  · by_cases hlow : b < 64 * i
    · exact wd_zero (h (b / 64) (by omega)) b (by omega) (by omega)
    · have := wd_bit p i (b - 64 * i) (by omega)
      rw [h3 (b - 64 * i) (by omega)] at this
      rw [this]
      congr 1
      omega
theorem fst_nothing {p : Nat → Bool} (h : ∀ j, j < 4 → wd p j = 0) : fstB p 256 0 = none :=
  fstB_none fun b _ hb => wd_zero (h (b / 64) (by omega)) b (by omega) (by omega)

/-- What First answers. -/
def fstV : Option Nat → Value
  | none => .tuple #[.int .u8 0, .bool false]
  | some k => .tuple #[.int .u8 (k : Int), .bool true]
theorem zne {x : Nat} (h : x ≠ 0) : ((x : Int) != 0) = true := by
  have : ¬ (x : Int) = 0 := by omega
  simpa using this
end Go.Proofs.YtgfknlkpdiejgaaGreatDoor
