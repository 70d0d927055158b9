/- The program's functions on sets of bytes, each as a contract over the set's bytes. No condition. -/
import Derived.Test.YtgfknlkpdiejgaaGreatDoorProg
import Derived.Test.YtgfknlkpdiejgaaGreatDoorLib
import Derived.Test.YtgfknlkpdiejgaaGreatDoorBits
import Derived.Test.YtgfknlkpdiejgaaGreatDoorSetC
namespace Go.Proofs.YtgfknlkpdiejgaaGreatDoor
open Go.RowKit

theorem word_bit (x k : Nat) (h : x < 18446744073709551616) : (bits .and .u64 ((x : Int) / 2 ^ k) 1 == 1) = x.testBit k := by
  have e : ((x : Int) / 2 ^ k) = ((x / 2 ^ k : Nat) : Int) := by
    rw [Int.natCast_ediv, Int.natCast_pow]; rfl
  have hle : x / 2 ^ k ≤ x := Nat.div_le_self _ _
  rw [e, show (1 : Int) = ((1 : Nat) : Int) from rfl, u64_and_nat _ 1 (by omega) (by decide), nat_mask1, Nat.testBit_eq_decide_div_mod_eq, Bool.eq_iff_iff, beq_iff_eq, decide_eq_true_eq]
  omega

set_option maxHeartbeats 1000000 in
theorem has_any (p : Nat → Bool) (b : Nat) (w : World) (hb : b < 256) :
    Calls Tryz.prog 47 #[setV p, .int .u8 b] w fun r w' => r = .returned (.bool (p b)) ∧ Ext w w' := by
  unfold setV u64v
  have h3 : bits .and .u8 (b : Int) 63 = ((b % 64 : Nat) : Int) := by
    have := u8_and_nat b 63 hb (by decide)
    rw [← nat_mask6]; exact this
  have hB := fun i => word_bit (wd p i) (b % 64) (wd_lt p i)
  have hC : ∀ i, b / 64 = i → (wd p i).testBit (b % 64) = p b := fun i hi => by
    rw [wd_bit _ _ _ (by omega)]
    congr 1
    omega
  have HB := Lib.hid hB
  have HC := Lib.hid hC
  clear hB hC
  rcases (show b / 64 = 0 ∨ b / 64 = 1 ∨ b / 64 = 2 ∨ b / 64 = 3 from by omega) with h | h | h | h
  · have h1 : (b : Int) / 64 = 0 := by omega
    have HCC := Lib.hid (HC.out _ h)
    clear h
    go_enter Tryz.func47, Tryz.ntmps47
    go_wp2
    go_ret
    exact ⟨ret_bool ((HB.out 0).trans HCC.out), (Ext.refl w).alloc _⟩
  · have h1 : (b : Int) / 64 = 1 := by omega
    have HCC := Lib.hid (HC.out _ h)
    clear h
    go_enter Tryz.func47, Tryz.ntmps47
    go_wp2
    go_ret
    exact ⟨ret_bool ((HB.out 1).trans HCC.out), (Ext.refl w).alloc _⟩
  · have h1 : (b : Int) / 64 = 2 := by omega
    have HCC := Lib.hid (HC.out _ h)
    clear h
    go_enter Tryz.func47, Tryz.ntmps47
    go_wp2
    go_ret
    exact ⟨ret_bool ((HB.out 2).trans HCC.out), (Ext.refl w).alloc _⟩
  · have h1 : (b : Int) / 64 = 3 := by omega
    have HCC := Lib.hid (HC.out _ h)
    clear h
    go_enter Tryz.func47, Tryz.ntmps47
    go_wp2
    go_ret
    exact ⟨ret_bool ((HB.out 3).trans HCC.out), (Ext.refl w).alloc _⟩

theorem xor_max (p : Nat → Bool) (i : Nat) : bits .xor .u64 IntKind.u64.max (wd p i : Int) = (wd (fun b => !p b) i : Int) := by
  have e : IntKind.u64.max = ((18446744073709551615 : Nat) : Int) := rfl
  rw [e, u64_xor_nat _ _ (by decide) (wd_lt p i)]
  congr 1
  refine wd_of (Nat.xor_lt_two_pow (n := 64) (by decide) (wd_lt p i)) fun k hk => ?_
  rw [Nat.testBit_xor, wd_bit _ _ _ hk, show 18446744073709551615 = 2 ^ 64 - 1 from rfl, Nat.testBit_two_pow_sub_one]
  have e2 : decide (k < 64) = true := by simpa using hk
  rw [e2, Bool.true_xor]

theorem andNot_wd (p q : Nat → Bool) (i : Nat) : bits .andNot .u64 (wd p i : Int) (wd q i : Int) = (wd (fun b => p b && !q b) i : Int) := by
  rw [u64_andNot_nat _ _ (wd_lt p i) (wd_lt q i), wd_not, wd_and]

end Go.Proofs.YtgfknlkpdiejgaaGreatDoor
