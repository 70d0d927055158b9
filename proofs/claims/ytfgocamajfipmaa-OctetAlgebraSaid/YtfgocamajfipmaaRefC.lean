/- The reference's Not, Join and Meet as contracts over the sets' bytes. No condition. -/
import Derived.Test.YtfgocamajfipmaaRefB
import Derived.Deep.RegionHeld3
namespace Go.Proofs.Ytfgocamajfipmaa
open Go.RowKit

set_option maxRecDepth 100000 in
set_option maxHeartbeats 2000000 in
theorem rNot_any (p : Nat → Bool) (w : World) :
    Calls Try.prog 7 #[setV p] w fun r w' => r = .returned (setV fun b => !p b) ∧ Ext w w' := by
  have HBi := Lib.hid (fun W => bits_any p W)
  have HM := Lib.hid (fun q W => made_any q W)
  have hzz := zero_bools
  unfold setV u64v at HBi ⊢
  go_enter Try.func7, Try.ntmps7
  go_wp2_with (first
    | (go_at_call 21; refine (HBi.out _).mono ?_; rintro e w1 ⟨rfl, hx1⟩)
    | (refine wpl_storeB rfl (.tmp 3) (.tmp 6) rfl w1.heap.size _ p (fun _ => false) rfl rfl (Blk.new w1 _ _) ?_))
  have hz1 := hx1.size
  have hr1 : Blk w1 (w.heap.size + 1) 25 (setC fun _ => false) := by rw [setC_none]; exact (show Blk _ _ _ _ from heap_alloc2_new w _ _).ext hx1
  have hxx : Ext w w1 := (((Ext.refl w).alloc _).alloc _).trans hx1
  have hs0 : Blk ((w1.alloc (.cells (bC fun _ => false) 46)).setRow w1.heap.size (bC p)) w1.heap.size 46 (bC p) := (Blk.new w1 _ _).setRow
  have hr0 := (hr1.alloc (.cells (bC fun _ => false) 46)).rowFar (g := w1.heap.size) (cs' := bC p) (by simp at hz1; omega)
  have hx0 := (hxx.alloc (.cells (bC fun _ => false) 46)).setRow hxx.size (bC p)
  have hsz : w.heap.size + 1 < w1.heap.size := by simp at hz1; omega
  clear hx1 hr1 hxx hz1
  generalize (w1.alloc (.cells (bC fun _ => false) 46)).setRow w1.heap.size (bC p) = w2 at *
  generalize w1.heap.size = S at *
  clear w1
  go_loopw [4] (fun i wr => ∃ k : Nat, k ≤ 256 ∧ i = .int .i64 k ∧ Blk wr S 46 (bC (upB (fun b => !p b) p k)) ∧ Blk wr (w.heap.size + 1) 25 (setC fun _ => false) ∧ Ext w wr) (fun i _ => 256 - (intOf i).toNat)
  case atStart => exact ⟨0, by omega, rfl, by rw [upB_zero]; exact hs0, hr0, hx0⟩
  case round =>
    clear hs0 hr0 hx0
    obtain ⟨k, hk, rfl, hs, hr, hx⟩ := hrel
    by_cases hlt : k < 256
    · have c2 := hs.cell k
      rw [bC_get _ _ hlt, upB_here] at c2
      have f2 := hs.frozen k
      go_wp2
      go_roundw
      case rel =>
        refine ⟨k + 1, by omega, by go_num, ?_, hr.far (by simp; omega) _, hx.setCell (by simp; omega) _⟩
        rw [← bC_set _ (upB (fun b => !p b) p (k + 1)) k (!p k) (upB_at _ _ _) (upB_ne _ _ _)]
        exact hs.set k _
      case measure => simp [intOf]; omega
    · rw [upB_full _ _ _ (by omega)] at hs
      go_wp2_with (first
        | (refine wpl_loadB rfl (.tmp 3) rfl S _ (fun b => !p b) rfl hs ?_)
        | (go_at_call 22; refine (HM.out _ _).mono ?_; rintro e w4 ⟨rfl, hx4⟩)
        | (refine wpl_storeSet rfl (.tmp 2) (.tmp 18) rfl (w.heap.size + 1) _ (fun b => !p b) (fun _ => false) rfl rfl (hr.ext hx4) ?_))
      exact ret_set rfl rfl rfl (hr.ext hx4).setRow ⟨rfl, (hx.trans hx4).setRow (by omega) _⟩

end Go.Proofs.Ytfgocamajfipmaa
