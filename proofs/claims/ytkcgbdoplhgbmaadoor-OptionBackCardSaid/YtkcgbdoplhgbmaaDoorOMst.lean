/- option.most: the number that a text writes. No condition. -/
import Derived.Test.YtkcgbdoplhgbmaaDoorOptP
import Derived.Test.YtkcgbdoplhgbmaaDoorBytes
namespace Go.Proofs.YtkcgbdoplhgbmaaDoor
open Go Go.RowKit

def byB (s : ByteArray) : List UInt8 := s.data.toList
theorem byB_len (s : ByteArray) : (byB s).length = s.size := by simp [byB]
theorem byB_get (s : ByteArray) (i : Nat) (h : i < s.size) : (byB s).getD i 0 = s[i] := by
  rw [List.getD_eq_getElem?_getD, List.getElem?_eq_getElem (by rw [byB_len]; exact h)]
  rfl
theorem byB_take (s : ByteArray) (k : Nat) (h : k < s.size) : (byB s).take (k + 1) = (byB s).take k ++ [s[k]] := by
  rw [List.take_add_one, List.getElem?_eq_getElem (by rw [byB_len]; exact h)]
  rfl
theorem valP_snoc (l : List UInt8) (b : UInt8) : valP (l ++ [b]) = valP l * 10 + (b.toNat - 48) := by
  unfold valP
  rw [List.foldl_append]
  rfl
theorem digP_snoc (l : List UInt8) (b : UInt8) : digP (l ++ [b]) = (digP l && (decide (48 ≤ b) && decide (b ≤ 57))) := by
  unfold digP
  rw [List.all_append]
  simp
theorem valP_lt : ∀ (n : Nat) (l : List UInt8), l.length = n → digP l = true → valP l < 10 ^ n
  | 0, l, h, _ => by
    rw [List.eq_nil_of_length_eq_zero h]
    decide
  | n + 1, l, h, hd => by
    obtain ⟨l', b, rfl⟩ : ∃ l' b, l = l' ++ [b] := by
      refine ⟨l.dropLast, l.getLast (by intro e; rw [e] at h; cases h), ?_⟩
      exact (List.dropLast_concat_getLast _).symm
    rw [List.length_append, List.length_singleton] at h
    rw [digP_snoc, Bool.and_eq_true, Bool.and_eq_true, decide_eq_true_eq, decide_eq_true_eq] at hd
    have := valP_lt n l' (by omega) hd.1
    have h57 : b.toNat ≤ 57 := hd.2.2
    rw [valP_snoc, Nat.pow_succ]
    omega
theorem digP_bad {l : List UInt8} {b : UInt8} (hb : b ∈ l) (h : ¬ (48 ≤ b ∧ b ≤ 57)) : digP l = false := by
  unfold digP
  rw [List.all_eq_false]
  exact ⟨b, hb, by simpa using fun h1 h2 => h ⟨h1, h2⟩⟩

set_option maxRecDepth 100000 in
set_option maxHeartbeats 2000000 in
theorem most_any (s : ByteArray) (w : World) :
    Calls Tryd.prog 93 #[.string s] w fun e w' => e = .returned (.tuple #[.int .i64 (((numbP (byB s)).getD 0 : Nat) : Int), .bool (numbP (byB s)).isSome]) ∧ w = w' := by
  by_cases h0 : s.size = 0
  · have hn : numbP (byB s) = none := if_neg (by rw [byB_len]; omega)
    have HN := Lib.hid hn
    have hz : (s.size : Int) = 0 := by omega
    clear hn h0
    go_enter Tryd.func93, Tryd.ntmps93
    go_wp2
    go_ret2
    exact ⟨by rw [HN.out]; rfl, rfl⟩
  by_cases h9 : 9 < s.size
  · have hn : numbP (byB s) = none := if_neg (by rw [byB_len]; omega)
    have HN := Lib.hid hn
    have hz : ((s.size : Int) == 0) = false := by rw [beq_eq_false_iff_ne]; omega
    have hz2 : (9 : Int) < (s.size : Int) := by omega
    clear hn h0 h9
    go_enter Tryd.func93, Tryd.ntmps93
    go_wp2
    go_ret2
    exact ⟨by rw [HN.out]; rfl, rfl⟩
  have hz : ((s.size : Int) == 0) = false := by rw [beq_eq_false_iff_ne]; omega
  have hz2 : ¬ (9 : Int) < (s.size : Int) := by omega
  go_enter Tryd.func93, Tryd.ntmps93
  go_upto_region 5 with fail
  go_loop [4, 5, 16] (fun n _ i => ∃ k : Nat, k ≤ s.size ∧ i = .int .i64 k ∧ n = .int .i64 (valP ((byB s).take k) : Nat) ∧ Hid (digP ((byB s).take k) = true)) (fun _ _ i => s.size - (intOf i).toNat)
  case atStart => exact ⟨0, Nat.zero_le _, rfl, rfl, Lib.hid rfl⟩
  case round =>
    obtain ⟨k, hk, rfl, rfl, HD⟩ := hrel
    by_cases hlt : k < s.size
    · have hv := valP_lt k ((byB s).take k) (by rw [List.length_take, byB_len]; omega) HD.out
      have hpow : 10 ^ k ≤ 10 ^ 8 := Nat.pow_le_pow_right (by omega) (by omega)
      have hv8 : valP ((byB s).take k) < 100000000 := by omega
      have hT := byB_take s k hlt
      by_cases hb : 48 ≤ s[k].toNat ∧ s[k].toNat ≤ 57
      · have HV := Lib.hid (show valP ((byB s).take (k + 1)) = valP ((byB s).take k) * 10 + (s[k].toNat - 48) by rw [hT, valP_snoc])
        have HD2 : Hid (digP ((byB s).take (k + 1)) = true) := Lib.hid (by
          rw [hT, digP_snoc, HD.out]
          have h1 : (48 : UInt8) ≤ s[k] := hb.1
          have h2 : s[k] ≤ 57 := hb.2
          simp [h1, h2])
        have q1 : ¬ (s[k].toNat : Int) < 48 := by omega
        have q2 : ¬ (57 : Int) < (s[k].toNat : Int) := by omega
        generalize valP ((byB s).take k) = n at *
        have HB := Lib.hid hb
        have HV8 := Lib.hid hv8
        clear hT hv hpow hb hv8
        have q3 : wrap64 (wrap64 (10 * (n : Int)) + ((s[k].toNat : Int) - 48)) = ((n * 10 + (s[k].toNat - 48) : Nat) : Int) := by
          have := HB.out
          have := HV8.out
          unfold wrap64
          omega
        go_wp2
        go_round
        case rel => exact ⟨k + 1, hlt, by go_num, by rw [HV.out, q3], HD2⟩
        case measure => simp [intOf]; omega
      · have hN : numbP (byB s) = none := if_neg (fun h => by
          have hmem : s[k] ∈ byB s := by
            rw [← byB_get s k hlt, List.getD_eq_getElem?_getD, List.getElem?_eq_getElem (by rw [byB_len]; exact hlt)]
            exact List.getElem_mem _
          have := digP_bad hmem (fun ⟨h1, h2⟩ => hb ⟨h1, h2⟩)
          rw [this] at h
          exact absurd h.2.2 (by decide))
        have HN := Lib.hid hN
        clear hT hv hpow hv8 hN
        by_cases hlo : s[k].toNat < 48
        · have q1 : (s[k].toNat : Int) < 48 := by omega
          clear hb hlo
          go_wp2
          go_ret2
          exact ⟨by rw [HN.out]; rfl, rfl⟩
        · have q1 : ¬ (s[k].toNat : Int) < 48 := by omega
          have q2 : (57 : Int) < (s[k].toNat : Int) := by omega
          clear hb hlo
          go_wp2
          go_ret2
          exact ⟨by rw [HN.out]; rfl, rfl⟩
    · have hks : k = s.size := by omega
      have hall : (byB s).take k = byB s := List.take_of_length_le (by rw [byB_len]; omega)
      have hN : numbP (byB s) = some (valP (byB s)) := if_pos ⟨by rw [byB_len]; omega, by rw [byB_len]; omega, by rw [← hall]; exact HD.out⟩
      have HN := Lib.hid hN
      have HA := Lib.hid hall
      have q1 : ¬ (k : Int) < (s.size : Int) := by omega
      clear hN hall hks
      go_wp2
      go_ret2
      exact ⟨by rw [HN.out, HA.out]; rfl, rfl⟩

end Go.Proofs.YtkcgbdoplhgbmaaDoor
