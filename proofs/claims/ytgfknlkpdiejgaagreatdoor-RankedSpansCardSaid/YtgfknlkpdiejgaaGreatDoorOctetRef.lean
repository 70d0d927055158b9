/- The reference's functions on sets of bytes, each as a contract over the set's bytes. No condition. -/
import Derived.Test.YtgfknlkpdiejgaaGreatDoorOctet
namespace Go.Proofs.YtgfknlkpdiejgaaGreatDoor
open Go.RowKit

theorem pow_lt64 (k : Nat) (h : k < 64) : 2 ^ k ≤ 9223372036854775808 := by
  have : 2 ^ k ≤ 2 ^ 63 := Nat.pow_le_pow_right (by decide) (by omega)
  exact this

/-- 2 to the power of n, kept from simp. -/
def p2 (n : Nat) : Nat := 2 ^ n

end Go.Proofs.YtgfknlkpdiejgaaGreatDoor
