/- The two Folds as contracts. No condition. -/
import Derived.Test.YteahmkhmkalimaaDoorNamed
namespace Go.Proofs.YteahmkhmkalimaaDoor
open Go.RowKit

theorem otherB_inv (b : Nat) : otherB (otherB b) = b := by
  unfold otherB upperB lowerB rangeB
  simp only [Bool.and_eq_true, decide_eq_true_eq]
  by_cases h1 : 65 ≤ b ∧ b ≤ 90
  · rw [if_pos h1, if_neg (by omega), if_pos (by omega)]; omega
  · rw [if_neg h1]
    by_cases h2 : 97 ≤ b ∧ b ≤ 122
    · rw [if_pos h2, if_pos (by omega)]; omega
    · rw [if_neg h2, if_neg h1, if_neg h2]
theorem otherB_lt (b : Nat) (h : b < 256) : otherB b < 256 := (other_bits ⟨b, h⟩).2.2.1
/-- With the other case of each letter. -/
def foldB (p : Nat → Bool) : Nat → Bool := fun x => p x || p (otherB x)
/-- .. of the bytes below k. -/
def foldTo (p : Nat → Bool) (k : Nat) : Nat → Bool := fun x => p x || (decide (otherB x < k) && p (otherB x))
theorem foldTo_zero (p : Nat → Bool) : foldTo p 0 = p := by funext x; simp [foldTo]
theorem foldTo_full (p : Nat → Bool) (k : Nat) (h : 256 ≤ k) : bC (foldTo p k) = bC (foldB p) := bC_congr fun b hb => by
  unfold foldTo foldB
  have := otherB_lt b hb
  have e : decide (otherB b < k) = true := by simp; omega
  rw [e, Bool.true_and]
theorem foldTo_skip (p : Nat → Bool) (k : Nat) (h : p k = false) : foldTo p (k + 1) = foldTo p k := by
  funext x
  unfold foldTo
  by_cases hx : otherB x = k
  · rw [hx, h, Bool.and_false, Bool.and_false]
  · have : decide (otherB x < k + 1) = decide (otherB x < k) := by rw [decide_eq_decide]; omega
    rw [this]
theorem foldTo_here (p : Nat → Bool) (k : Nat) (h : p k = true) : foldTo p (k + 1) (otherB k) = true := by
  unfold foldTo
  rw [otherB_inv, h]
  simp
theorem foldTo_ne (p : Nat → Bool) (k x : Nat) (h : x ≠ otherB k) : foldTo p (k + 1) x = foldTo p k x := by
  unfold foldTo
  have hx : otherB x ≠ k := fun e => h (by rw [← e, otherB_inv])
  have : decide (otherB x < k + 1) = decide (otherB x < k) := by rw [decide_eq_decide]; omega
  rw [this]

set_option maxRecDepth 100000 in
set_option maxHeartbeats 4000000 in
theorem rFold_any (p : Nat → Bool) (w : World) :
    Calls Tryd.prog 32 #[setV p] w fun r w' => r = .returned (setV (foldB p)) ∧ Ext w w' := by
  have HBi := Lib.hid (fun W => bits_any p W)
  have HM := Lib.hid (fun q W => made_any q W)
  have HO := Lib.hid (fun b W h => rOther_any b W h)
  have hzz := zero_bools
  unfold setV u64v at HBi ⊢
  go_enter Tryd.func32, Tryd.ntmps32
  go_wp2_with (first
    | (go_at_call 39; refine (HBi.out _).mono ?_; rintro e w1 ⟨rfl, hx1⟩)
    | (refine wpl_storeB rfl (.tmp 3) (.tmp 7) rfl w1.heap.size _ p (fun _ => false) rfl rfl (Blk.new w1 _ _) ?_; have hL := (Blk.new w1 53 (bC fun _ => false)).setRow (cs' := bC p); have hxL := ((hx1.alloc (.cells (bC fun _ => false) 53)).setRow (g := w1.heap.size) hx1.size (bC p)); generalize hw2 : (w1.alloc (.cells (bC fun _ => false) 53)).setRow w1.heap.size (bC p) = w2 at *)
    | (refine wpl_loadB rfl (.tmp 3) rfl w1.heap.size _ p rfl hL ?_)
    | (refine wpl_storeB rfl (.tmp 4) (.tmp 8) rfl w2.heap.size _ p (fun _ => false) rfl rfl (Blk.new w2 _ _) ?_))
  have hz1 := hx1.size
  have hz2 := hL.lt
  have hr1 : Blk w1 (w.heap.size + 1) 24 (setC fun _ => false) := by rw [setC_none]; exact (show Blk _ _ _ _ from heap_alloc2_new w _ _).ext hx1
  have hw1 : Ext w w1 := (((Ext.refl w).alloc _).alloc _).trans hx1
  rw [World.size_alloc, World.size_alloc] at hz1
  have hrL : Blk w2 (w.heap.size + 1) 24 (setC fun _ => false) := by rw [← hw2]; exact (hr1.alloc _).rowFar (by omega)
  have hxw : Ext w w2 := by rw [← hw2]; exact (hw1.alloc _).setRow (by omega) _
  clear hw2 hxL hr1 hx1
  have hs0 : Blk ((w2.alloc (.cells (bC fun _ => false) 53)).setRow w2.heap.size (bC p)) w2.heap.size 53 (bC p) := (Blk.new w2 _ _).setRow
  have hl0 := (hL.alloc (.cells (bC fun _ => false) 53)).rowFar (g := w2.heap.size) (cs' := bC p) (by omega)
  have hr0 := (hrL.alloc (.cells (bC fun _ => false) 53)).rowFar (g := w2.heap.size) (cs' := bC p) (by omega)
  have hx0 := (hxw.alloc (.cells (bC fun _ => false) 53)).setRow hxw.size (bC p)
  clear hL hrL hxw hw1
  generalize (w2.alloc (.cells (bC fun _ => false) 53)).setRow w2.heap.size (bC p) = w4 at *
  generalize w2.heap.size = S at *
  generalize w1.heap.size = L at *
  clear w1 w2
  go_loopw [5] (fun i wr => ∃ k : Nat, k ≤ 256 ∧ i = .int .i64 k ∧ Blk wr S 53 (bC (foldTo p k)) ∧ Blk wr L 53 (bC p) ∧ Blk wr (w.heap.size + 1) 24 (setC fun _ => false) ∧ Ext w wr) (fun i _ => 256 - (intOf i).toNat)
  case atStart => exact ⟨0, by omega, rfl, by rw [foldTo_zero]; exact hs0, hl0, hr0, hx0⟩
  case round =>
    clear hs0 hl0 hr0 hx0
    obtain ⟨k, hk, rfl, hs, hl, hr, hx⟩ := hrel
    by_cases hlt : k < 256
    · have c1 := hl.cell k
      rw [bC_get _ _ hlt] at c1
      cases hp : p k with
      | true =>
        rw [hp] at c1
        have hob := otherB_lt k hlt
        have c2 := hs.cell (otherB k)
        rw [bC_get _ _ hob] at c2
        have f2 := hs.frozen (otherB k)
        have HS := Lib.hid (bC_set (foldTo p k) (foldTo p (k + 1)) (otherB k) true (foldTo_here p k hp) (foldTo_ne p k))
        have ho := Lib.hid (fun W => HO.out k W hlt)
        generalize foldTo p k (otherB k) = v at *
        generalize hoe : otherB k = o at *
        clear hoe hp
        go_wp2_with (go_at_call 33; refine (ho.out _).mono ?_; rintro e w5 ⟨rfl, rfl⟩)
        go_roundw
        case rel => exact ⟨k + 1, by omega, by go_num, by rw [← HS.out]; exact hs.set o _, hl.far (by simp; omega) _, hr.far (by simp; omega) _, hx.setCell (by simp; omega) _⟩
        case measure => simp [intOf]; omega
      | false =>
        rw [hp] at c1
        have HS := Lib.hid (foldTo_skip p k hp)
        clear hp
        go_wp2
        go_roundw
        case rel => exact ⟨k + 1, by omega, by go_num, by rw [HS.out]; exact hs, hl, hr, hx⟩
        case measure => simp [intOf]; omega
    · rw [foldTo_full _ _ (by omega)] at hs
      go_wp2_with (first
        | (refine wpl_loadB rfl (.tmp 4) rfl S _ (foldB p) rfl hs ?_)
        | (go_at_call 37; refine (HM.out _ _).mono ?_; rintro e w6 ⟨rfl, hx6⟩)
        | (refine wpl_storeSet rfl (.tmp 2) (.tmp 21) rfl (w.heap.size + 1) _ (foldB p) (fun _ => false) rfl rfl (hr.ext hx6) ?_))
      exact ret_set rfl rfl rfl (hr.ext hx6).setRow ⟨rfl, (hx.trans hx6).setRow (by omega) _⟩

end Go.Proofs.YteahmkhmkalimaaDoor
