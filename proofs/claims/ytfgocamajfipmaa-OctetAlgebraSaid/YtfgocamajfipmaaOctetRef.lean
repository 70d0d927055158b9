/- The reference's functions on sets of bytes, each as a contract over the set's bytes. No condition. -/
import Derived.Test.YtfgocamajfipmaaOctet
namespace Go.Proofs.Ytfgocamajfipmaa
open Go.RowKit

theorem pow_lt64 (k : Nat) (h : k < 64) : 2 ^ k ≤ 9223372036854775808 := by
  have : 2 ^ k ≤ 2 ^ 63 := Nat.pow_le_pow_right (by decide) (by omega)
  exact this

/-- 2 to the power of n, kept from simp. -/
def p2 (n : Nat) : Nat := 2 ^ n

set_option maxHeartbeats 1000000 in
theorem power_any (n : Nat) (w : World) (hn : n < 64) :
    Calls Try.prog 25 #[.int .i64 n] w fun r w' => r = .returned (u64v (p2 n)) ∧ w = w' := by
  unfold u64v
  go_enter Try.func25, Try.ntmps25
  go_wp2
  go_loop [3, 4] (fun p i => ∃ k : Nat, k ≤ n ∧ i = .int .i64 k ∧ ∃ x : Nat, p = .int .u64 x ∧ Hid (x = p2 k)) (fun _ i => n - (intOf i).toNat)
  case atStart => exact ⟨0, Nat.zero_le _, rfl, 1, rfl, Lib.hid rfl⟩
  case round =>
    obtain ⟨k, hk, rfl, x, rfl, hx⟩ := hrel
    by_cases hlt : k < n
    · have hb : x ≤ 4611686018427387904 := by
        rw [hx.out]
        unfold p2
        exact (Nat.pow_le_pow_right (by decide) (show k ≤ 62 from by omega) : 2 ^ k ≤ 2 ^ 62)
      go_wp2
      go_round
      case rel => exact ⟨k + 1, hlt, by go_num, x * 2, by go_num, Lib.hid (by rw [hx.out]; unfold p2; rw [Nat.pow_succ])⟩
      case measure => simp [intOf]; omega
    · have hks : k = n := by omega
      subst hks
      go_wp2
      go_ret
      exact ⟨by rw [← hx.out]; rfl, rfl⟩

end Go.Proofs.Ytfgocamajfipmaa
