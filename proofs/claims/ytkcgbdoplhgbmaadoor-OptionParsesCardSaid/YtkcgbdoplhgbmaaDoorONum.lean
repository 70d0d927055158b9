/- trawlref28.number: the number that a text writes. No condition. -/
import Derived.Test.YtkcgbdoplhgbmaaDoorOMst
namespace Go.Proofs.YtkcgbdoplhgbmaaDoor
open Go Go.RowKit

/-- The reference's number: -1: none. -/
def rnumP (s : List UInt8) : Int := match numbP s with
  | none => -1
  | some n => (n : Int)

set_option maxRecDepth 100000 in
set_option maxHeartbeats 2000000 in
theorem rnumber_any (s : ByteArray) (w : World) :
    Calls Tryd.prog 71 #[.string s] w fun e w' => e = .returned (.int .i64 (rnumP (byB s))) ∧ w = w' := by
  go_enter Tryd.func71, Tryd.ntmps71
  go_upto_region 3 with fail
  go_loop [3, 4] (fun n i => ∃ k : Nat, k ≤ s.size ∧ k ≤ 9 ∧ i = .int .i64 k ∧ n = .int .i64 (valP ((byB s).take k) : Nat) ∧ Hid (digP ((byB s).take k) = true)) (fun _ i => s.size - (intOf i).toNat)
  case atStart => exact ⟨0, Nat.zero_le _, by omega, rfl, rfl, Lib.hid rfl⟩
  case round =>
    obtain ⟨k, hk, hk9, rfl, rfl, HD⟩ := hrel
    by_cases hlt : k < s.size
    · by_cases h9 : k = 9
      · have hN : rnumP (byB s) = -1 := by
          unfold rnumP
          rw [show numbP (byB s) = none from if_neg (by rw [byB_len]; omega)]
        have HN := Lib.hid hN
        have q9 : ((9 : Nat) : Int) < (s.size : Int) := by omega
        subst h9
        clear hN
        generalize valP ((byB s).take 9) = n at *
        go_wp2
        go_ret
        exact ⟨by rw [HN.out]; rfl, rfl⟩
      have hv := valP_lt k ((byB s).take k) (by rw [List.length_take, byB_len]; omega) HD.out
      have hpow : 10 ^ k ≤ 10 ^ 8 := Nat.pow_le_pow_right (by omega) (by omega)
      have hv8 : valP ((byB s).take k) < 100000000 := by omega
      have hT := byB_take s k hlt
      have q0 : ¬ (9 : Int) ≤ (k : Int) := by omega
      by_cases hb : 48 ≤ s[k].toNat ∧ s[k].toNat ≤ 57
      · have HV := Lib.hid (show valP ((byB s).take (k + 1)) = valP ((byB s).take k) * 10 + (s[k].toNat - 48) by rw [hT, valP_snoc])
        have HD2 : Hid (digP ((byB s).take (k + 1)) = true) := Lib.hid (by
          rw [hT, digP_snoc, HD.out]
          have h1 : (48 : UInt8) ≤ s[k] := hb.1
          have h2 : s[k] ≤ 57 := hb.2
          simp [h1, h2])
        have q1 : ¬ (s[k].toNat : Int) < 48 := by omega
        have q2 : ¬ (57 : Int) < (s[k].toNat : Int) := by omega
        generalize valP ((byB s).take k) = n at *
        have HB := Lib.hid hb
        have HV8 := Lib.hid hv8
        clear hT hv hpow hb hv8
        have q3 : wrap64 (wrap64 ((n : Int) * 10) + ((s[k].toNat : Int) - 48)) = ((n * 10 + (s[k].toNat - 48) : Nat) : Int) := by
          have := HB.out
          have := HV8.out
          unfold wrap64
          omega
        go_wp2
        go_round
        case rel => exact ⟨k + 1, hlt, by omega, by go_num, by rw [HV.out, q3], HD2⟩
        case measure => simp [intOf]; omega
      · have hN : rnumP (byB s) = -1 := by
          unfold rnumP
          rw [show numbP (byB s) = none from if_neg (fun h => by
            have hmem : s[k] ∈ byB s := by
              rw [← byB_get s k hlt, List.getD_eq_getElem?_getD, List.getElem?_eq_getElem (by rw [byB_len]; exact hlt)]
              exact List.getElem_mem _
            have := digP_bad hmem (fun ⟨h1, h2⟩ => hb ⟨h1, h2⟩)
            rw [this] at h
            exact absurd h.2.2 (by decide))]
        have HN := Lib.hid hN
        clear hT hv hpow hv8 hN
        generalize valP ((byB s).take k) = n at *
        by_cases hlo : s[k].toNat < 48
        · have q1 : (s[k].toNat : Int) < 48 := by omega
          clear hb hlo
          go_wp2
          go_ret
          exact ⟨by rw [HN.out]; rfl, rfl⟩
        · have q1 : ¬ (s[k].toNat : Int) < 48 := by omega
          have q2 : (57 : Int) < (s[k].toNat : Int) := by omega
          clear hb hlo
          go_wp2
          go_ret
          exact ⟨by rw [HN.out]; rfl, rfl⟩
    · have hall : (byB s).take k = byB s := List.take_of_length_le (by rw [byB_len]; omega)
      have q1 : ¬ (k : Int) < (s.size : Int) := by omega
      by_cases he : s.size = 0
      · have hN : rnumP (byB s) = -1 := by
          unfold rnumP
          rw [show numbP (byB s) = none from if_neg (by rw [byB_len]; omega)]
        have HN := Lib.hid hN
        have ht : s.toList.isEmpty = true := by
          rw [ByteArray.toList_eq]
          have : s.data.toList.length = 0 := by simpa using he
          rw [List.eq_nil_of_length_eq_zero this]
          rfl
        clear hN hall
        generalize valP ((byB s).take k) = n at *
        go_wp2
        go_ret
        exact ⟨by rw [HN.out]; rfl, rfl⟩
      · have hN : rnumP (byB s) = (valP (byB s) : Nat) := by
          unfold rnumP
          rw [show numbP (byB s) = some (valP (byB s)) from if_pos ⟨by rw [byB_len]; omega, by rw [byB_len]; omega, by rw [← hall]; exact HD.out⟩]
        have HN := Lib.hid hN
        have HA := Lib.hid hall
        have ht : s.toList.isEmpty = false := by
          rw [ByteArray.toList_eq, List.isEmpty_eq_false_iff]
          intro h
          have : s.data.toList.length = 0 := by rw [h]; rfl
          exact he (by simpa using this)
        clear hN hall he
        go_wp2
        go_ret
        exact ⟨by rw [HN.out, HA.out]; rfl, rfl⟩

end Go.Proofs.YtkcgbdoplhgbmaaDoor
