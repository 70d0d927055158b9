/- The reference's Made as a contract over the set's bytes. No condition. -/
import Derived.Test.YtfgocamajfipmaaRefA
namespace Go.Proofs.Ytfgocamajfipmaa
open Go.RowKit

set_option maxRecDepth 100000 in
set_option maxHeartbeats 2000000 in
theorem made_any (p : Nat → Bool) (w : World) :
    Calls Try.prog 22 #[.agg (bC p)] w fun r w' => r = .returned (setV p) ∧ Ext w w' := by
  have HP := Lib.hid (fun n W h => power_same n W h)
  have HB := Lib.hid (lowB_add p)
  go_enter Try.func22, Try.ntmps22
  go_wp2
  obtain ⟨w1, hw1⟩ : ∃ w1, w1 = w.alloc (.cells (bC p) 46) := ⟨_, rfl⟩
  have ha : Blk w1 w.heap.size 46 (bC p) := by rw [hw1]; exact Blk.new w _ _
  have hx1 : Ext w w1 := by rw [hw1]; exact (Ext.refl w).alloc _
  have hsz : w1.heap.size = w.heap.size + 1 := by rw [hw1]; simp
  rw [← hw1, ← hsz, ← setC_none]
  have hr0 := (Blk.new w1 25 (setC fun _ => false)).alloc (.cells (setC fun _ => false) 25)
  have hs0 := heap_alloc2_new w1 (.cells (setC fun _ => false) 25) (.cells (setC fun _ => false) 25)
  have ha0 := (ha.alloc (.cells (setC fun _ => false) 25)).alloc (.cells (setC fun _ => false) 25)
  have hx0 := (hx1.alloc (.cells (setC fun _ => false) 25)).alloc (.cells (setC fun _ => false) 25)
  have hlt1 : w.heap.size < w1.heap.size := by omega
  clear hw1 ha hx1 hsz
  generalize (w1.alloc (.cells (setC fun _ => false) 25)).alloc (.cells (setC fun _ => false) 25) = w2 at *
  generalize w1.heap.size = R at *
  clear w1
  go_loopw [4] (fun i wr => ∃ k : Nat, k ≤ 256 ∧ i = .int .i64 k ∧ Blk wr (R + 1) 25 (setC (lowB p k)) ∧ Blk wr R 25 (setC fun _ => false) ∧ Blk wr w.heap.size 46 (bC p) ∧ Ext w wr) (fun i _ => 256 - (intOf i).toNat)
  case atStart => exact ⟨0, by omega, rfl, by rw [lowB_zero]; exact hs0, hr0, ha0, hx0⟩
  case round =>
    clear hs0 hr0 ha0 hx0
    obtain ⟨k, hk, rfl, hs, hr, ha, hx⟩ := hrel
    by_cases hlt : k < 256
    · have hi4 : k / 64 < 4 := by omega
      have c1 := hs.cell (k / 64)
      rw [setC_get _ _ hi4] at c1
      unfold u64v at c1
      have c2 := ha.cell k
      rw [bC_get _ _ hlt] at c2
      have f2 := hs.frozen (k / 64)
      cases hpk : p k with
      | false =>
        rw [hpk] at c2
        have hl := lowB_same p k hpk
        have HL := Lib.hid hl
        clear hl hpk
        go_wp2
        go_roundw
        case rel => exact ⟨k + 1, by omega, by go_num, by rw [HL.out]; exact hs, hr, ha, hx⟩
        case measure => simp [intOf]; omega
      | true =>
        rw [hpk] at c2
        have hadd := HB.out k hpk
        have hp := HP.out (k % 64)
        have hm : k % 64 < 64 := by omega
        have hsum := wd_lt (lowB p (k + 1)) (k / 64)
        rw [← hadd] at hsum
        have HA := Lib.hid hadd
        have HN : Hid (∀ j, j < 4 → j ≠ k / 64 → wd (lowB p (k + 1)) j = wd (lowB p k) j) := Lib.hid (fun j _ hj => wd_congr (fun i hi => lowB_ne p k (64 * j + i) (by omega)))
        clear hpk hadd
        generalize hye : p2 (k % 64) = y at *
        generalize hxe : wd (lowB p k) (k / 64) = x at *
        clear hye hxe
        go_wp2
        have q1 : IntKind.i64.wrap ((k : Int) / 64) = ((k / 64 : Nat) : Int) := by rw [IntKind.wrap_i64]; omega
        have q2 : IntKind.i64.wrap ((k : Int) % 64) = ((k % 64 : Nat) : Int) := by rw [IntKind.wrap_i64]; omega
        have q3 : (0 : Int) ≤ (k : Int) / 64 := by omega
        have q4 : (k : Int) / 64 < 4 := by omega
        have q5 : ((k : Int) / 64).toNat = k / 64 := by omega
        have q6 : IntKind.u64.wrap ((x : Int) + (y : Int)) = (x : Int) + (y : Int) := by rw [IntKind.wrap_u64]; omega
        go_still_tail 11, (by kernel_rfl)
        still_call (hp _ hm)
        repeat still_step
        refine wpStill_nil ?_
        change wpList _ _ _ _ _ wr.drew
        clear q1 q2 q3 q4 q5 q6
        go_wp2
        go_roundw
        case rel =>
          refine ⟨k + 1, by omega, by go_num, ?_, (hr.far (by simp) _).drew, (ha.far (by simp; omega) _).drew, (hx.setCell (by simp; omega) _).drew⟩
          rw [← setC_put (lowB p k) (lowB p (k + 1)) (k / 64) (x + y) hi4 HA.out HN.out]
          exact (hs.set (k / 64) _).drew
        case measure => simp [intOf]; omega
    · have hk2 : 256 ≤ k := by omega
      rw [lowB_setC p k hk2] at hs
      clear hk2
      go_wp2_with (first
        | (refine wpl_loadSet rfl (.tmp 3) rfl (R + 1) _ p rfl hs ?_)
        | (refine wpl_storeSet rfl (.tmp 2) (.tmp 23) rfl R _ p (fun _ => false) rfl rfl hr ?_))
      exact ret_set rfl rfl rfl hr.setRow ⟨rfl, hx.setRow (by omega) _⟩

/-- One up to k, another one behind. -/
def upB (q p : Nat → Bool) (k : Nat) : Nat → Bool := fun b => if b < k then q b else p b
theorem upB_zero (q p : Nat → Bool) : upB q p 0 = p := by funext b; simp [upB]
theorem upB_full (q p : Nat → Bool) (k : Nat) (h : 256 ≤ k) : bC (upB q p k) = bC q := bC_congr fun b hb => by unfold upB; rw [if_pos (by omega)]
theorem upB_at (q p : Nat → Bool) (k : Nat) : upB q p (k + 1) k = q k := by simp [upB]
theorem upB_here (q p : Nat → Bool) (k : Nat) : upB q p k k = p k := by simp [upB]
theorem upB_ne (q p : Nat → Bool) (k b : Nat) (h : b ≠ k) : upB q p (k + 1) b = upB q p k b := by
  unfold upB
  by_cases hb : b < k
  · rw [if_pos hb, if_pos (by omega)]
  · rw [if_neg hb, if_neg (by omega)]
theorem zero_bools : ∀ w, (zeroValue 46).run Try.prog w = .ok (.agg (bC fun _ => false)) w :=
  (zero_of_info (P := Try.prog) (t := 46) (v := .agg (bC fun _ => false)) (n := 256) (by rw [bC_none]; kernel_rfl)).1

end Go.Proofs.Ytfgocamajfipmaa
