/- The reference's Has as a contract over the set's bytes. No condition. -/
import Derived.Test.YteahmkhmkalimaaDoorRefD
namespace Go.Proofs.YteahmkhmkalimaaDoor
open Go.RowKit

theorem word_rem (x k : Nat) (_h : x < 18446744073709551616) : (Int.tmod ((x : Int) / 2 ^ k) 2 == 1) = x.testBit k := by
  have e : ((x : Int) / 2 ^ k) = ((x / 2 ^ k : Nat) : Int) := by
    rw [Int.natCast_ediv, Int.natCast_pow]; rfl
  rw [e, Int.tmod_eq_emod_of_nonneg (Int.natCast_nonneg _), Nat.testBit_eq_decide_div_mod_eq, Bool.eq_iff_iff, beq_iff_eq, decide_eq_true_eq]
  generalize x / 2 ^ k = y
  omega

set_option maxHeartbeats 1000000 in
theorem rHas_any (p : Nat → Bool) (b : Nat) (w : World) (hb : b < 256) :
    Calls Tryd.prog 18 #[setV p, .int .u8 b] w fun r w' => r = .returned (.bool (p b)) ∧ Ext w w' := by
  unfold setV u64v
  have h3 : Int.tmod (b : Int) 64 = ((b % 64 : Nat) : Int) := by
    rw [Int.tmod_eq_emod_of_nonneg (by omega)]; omega
  have hB := fun i => word_rem (wd p i) (b % 64) (wd_lt p i)
  have hC : ∀ i, b / 64 = i → (wd p i).testBit (b % 64) = p b := fun i hi => by
    rw [wd_bit _ _ _ (by omega)]
    congr 1
    omega
  have HB := Lib.hid hB
  have HC := Lib.hid hC
  clear hB hC
  rcases (show b / 64 = 0 ∨ b / 64 = 1 ∨ b / 64 = 2 ∨ b / 64 = 3 from by omega) with h | h | h | h
  · have h1 : Int.tdiv (b : Int) 64 = 0 := by rw [Int.tdiv_eq_ediv_of_nonneg (by omega)]; omega
    have HCC := Lib.hid (HC.out _ h)
    clear h
    go_enter Tryd.func18, Tryd.ntmps18
    go_wp2
    go_ret
    exact ⟨ret_bool ((HB.out 0).trans HCC.out), (Ext.refl w).alloc _⟩
  · have h1 : Int.tdiv (b : Int) 64 = 1 := by rw [Int.tdiv_eq_ediv_of_nonneg (by omega)]; omega
    have HCC := Lib.hid (HC.out _ h)
    clear h
    go_enter Tryd.func18, Tryd.ntmps18
    go_wp2
    go_ret
    exact ⟨ret_bool ((HB.out 1).trans HCC.out), (Ext.refl w).alloc _⟩
  · have h1 : Int.tdiv (b : Int) 64 = 2 := by rw [Int.tdiv_eq_ediv_of_nonneg (by omega)]; omega
    have HCC := Lib.hid (HC.out _ h)
    clear h
    go_enter Tryd.func18, Tryd.ntmps18
    go_wp2
    go_ret
    exact ⟨ret_bool ((HB.out 2).trans HCC.out), (Ext.refl w).alloc _⟩
  · have h1 : Int.tdiv (b : Int) 64 = 3 := by rw [Int.tdiv_eq_ediv_of_nonneg (by omega)]; omega
    have HCC := Lib.hid (HC.out _ h)
    clear h
    go_enter Tryd.func18, Tryd.ntmps18
    go_wp2
    go_ret
    exact ⟨ret_bool ((HB.out 3).trans HCC.out), (Ext.refl w).alloc _⟩

end Go.Proofs.YteahmkhmkalimaaDoor
