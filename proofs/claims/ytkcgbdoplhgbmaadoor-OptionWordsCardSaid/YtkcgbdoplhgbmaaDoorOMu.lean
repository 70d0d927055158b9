/- trawllaw28.much as a contract. Conditions: the words lie in memory; their lengths. -/
import Derived.Test.YtkcgbdoplhgbmaaDoorOPa
namespace Go.Proofs.YtkcgbdoplhgbmaaDoor
open Go Go.RowKit

theorem totP_snoc (a : List (List UInt8)) (x : List UInt8) : totP (a ++ [x]) = totP a + (x.length + 1) := by
  unfold totP
  rw [List.map_append, List.sum_append]
  simp
theorem totP_take (ws : List (List UInt8)) (k : Nat) : totP (ws.take k) ≤ totP ws := by
  conv => rhs; rw [← List.take_append_drop k ws]
  unfold totP
  rw [List.map_append, List.sum_append]
  omega
theorem nat_left {n k : Nat} (h : k < n) : n - (k + 1) < n - k := by omega

set_option maxRecDepth 100000 in
set_option maxHeartbeats 4000000 in
theorem much_any (ws : List ByteArray) (wv : Value) (w : World) (hW : RdT w wv ws) (hl : ws.length ≤ 1000000000000000) (hs : ∀ x ∈ ws, x.size ≤ 1000000000000000) :
    Calls Tryd.prog 29 #[wv] w fun r w' => r = .returned (.bool (decide (50000 < totP (ws.map byB)))) ∧ w = w' := by
  obtain ⟨A, c, rfl, hlc, hcs⟩ := hW
  have HCS := Lib.hid hcs
  have HSZ := Lib.hid hs
  have HL := Lib.hid hl
  generalize hR : decide (50000 < totP (ws.map byB)) = R
  have HR := Lib.hid hR
  clear hcs hs hR
  go_enter Tryd.func29, Tryd.ntmps29
  go_wp2
  go_loopw [3, 5, 8] (fun n _ i wr => ∃ k : Nat, k ≤ ws.length ∧ i = .int .i64 k ∧ n = .int .i64 (totP ((ws.map byB).take k) : Nat) ∧ w = wr ∧ Hid (totP ((ws.map byB).take k) ≤ 50000)) (fun _ _ i _ => ws.length - (intOf i).toNat)
  case atStart => exact ⟨0, Nat.zero_le _, rfl, rfl, rfl, Lib.hid (by rw [List.take_zero]; decide)⟩
  case round =>
    obtain ⟨k, hk, rfl, rfl, rfl, HT⟩ := hrel
    by_cases hlt : k < ws.length
    · obtain ⟨g, off, rfl, hcell⟩ := HCS.out k hlt
      have hgx : ws.getD k ⟨#[]⟩ = ws[k] := by rw [List.getD_eq_getElem?_getD, List.getElem?_eq_getElem hlt]; rfl
      rw [hgx] at hcell
      have hsz := HSZ.out ws[k] (List.getElem_mem hlt)
      have HN := Lib.hid (show totP ((ws.map byB).take (k + 1)) = totP ((ws.map byB).take k) + (ws[k].size + 1) by
        rw [List.take_succ_eq_append_getElem (by simpa using hlt), totP_snoc]
        simp [byB_len])
      have hle := totP_take (ws.map byB) (k + 1)
      rw [HN.out] at hle
      have HLE := Lib.hid hle
      have ht := HT.out
      generalize ws[k] = x at *
      generalize hT : totP ((ws.map byB).take k) = T at *
      have q1 : (k : Int) < (ws.length : Int) := by omega
      by_cases hm : 50000 < T + (x.size + 1)
      · have q2 : (50000 : Int) < (T : Int) + ((x.size : Int) + 1) := by omega
        have HRR : Hid (R = true) := Lib.hid (by rw [← HR.out, decide_eq_true_eq]; have := HLE.out; omega)
        clear hm hgx hle HCS HSZ
        go_wp2
        go_ret
        rw [HRR.out]
        exact ⟨rfl, rfl⟩
      · have q2 : ¬ (50000 : Int) < (T : Int) + ((x.size : Int) + 1) := by omega
        have HM := Lib.hid hm
        clear hgx hle hm HCS
        go_wp2
        go_roundw
        case rel => exact ⟨k + 1, hlt, by go_num, by rw [HN.out]; go_num, trivial, Lib.hid (by rw [HN.out]; have := HM.out; omega)⟩
        case measure => simp [intOf]; omega
    · have q1 : ¬ (k : Int) < (ws.length : Int) := by omega
      have HRR : Hid (R = false) := Lib.hid (by
        rw [← HR.out, decide_eq_false_iff_not]
        have := HT.out
        rw [List.take_of_length_le (by rw [List.length_map]; omega)] at this
        omega)
      clear HCS HSZ
      go_wp2
      go_ret
      rw [HRR.out]
      exact ⟨rfl, rfl⟩

end Go.Proofs.YtkcgbdoplhgbmaaDoor
