/- The reference's Join and Meet as contracts over the sets' bytes. No condition. -/
import Derived.Test.YtfgocamajfipmaaRefC
import Derived.Test.YtfgocamajfipmaaRely
namespace Go.Proofs.Ytfgocamajfipmaa
open Go.RowKit

abbrev jL (pos : String) (d x : Nat) : Oper := { dst := some d, op := .load 25 (.tmp x), type := 25, pos := pos, after := #[], guard := none }
abbrev jA (pos : String) (d : Nat) : Oper := { dst := some d, op := .alloc 46, type := 0, pos := pos, after := #[], guard := none }
abbrev jB (pos : String) (d x : Nat) (after : Array Edge) : Oper := { dst := some d, op := .call { callee := .value (.func 21), args := #[.tmp x], argTypes := #[25] }, type := 46, pos := pos, after := after, guard := none }
abbrev jS (pos : String) (x y : Nat) (after : Array Edge) : Oper := { dst := none, op := .store 46 (.tmp x) (.tmp y), type := 0, pos := pos, after := after, guard := none }

set_option maxRecDepth 100000 in
set_option maxHeartbeats 2000000 in
theorem rJoin_any (p q : Nat → Bool) (w : World) :
    Calls Try.prog 8 #[setV p, setV q] w fun r w' => r = .returned (setV fun b => p b || q b) ∧ Ext w w' := by
  have HBp := Lib.hid (fun W => bits_any p W)
  have HBq := Lib.hid (fun W => bits_any q W)
  have HM := Lib.hid (fun q W => made_any q W)
  have hzz := Lib.hid zero_bools
  unfold setV u64v
  go_enter Try.func8, Try.ntmps8
  go_wp2
  obtain ⟨w1, hw1⟩ : ∃ w1, w1 = ((w.alloc (.cells #[.int .u64 (wd p 0 : Int), .int .u64 (wd p 1 : Int), .int .u64 (wd p 2 : Int), .int .u64 (wd p 3 : Int)] 25)).alloc (.cells #[.int .u64 (wd q 0 : Int), .int .u64 (wd q 1 : Int), .int .u64 (wd q 2 : Int), .int .u64 (wd q 3 : Int)] 25)).alloc (.cells #[.int .u64 0, .int .u64 0, .int .u64 0, .int .u64 0] 25) := ⟨_, rfl⟩
  rw [← hw1]
  have ha : Blk w1 w.heap.size 25 (setC p) := by rw [hw1]; exact (((Blk.new w 25 (setC p)).alloc _).alloc _)
  have hb : Blk w1 (w.heap.size + 1) 25 (setC q) := by
    rw [hw1]
    exact (show Blk _ _ _ _ from heap_alloc2_new w (.cells (setC p) 25) (.cells (setC q) 25)).alloc _
  have hr : Blk w1 (w.heap.size + 2) 25 (setC fun _ => false) := by
    rw [hw1, setC_none]
    have := heap_alloc2_new (w.alloc (.cells (setC p) 25)) (.cells (setC q) 25) (.cells #[.int .u64 0, .int .u64 0, .int .u64 0, .int .u64 0] 25)
    rw [World.size_alloc] at this
    exact this
  have hx1 : Ext w w1 := by rw [hw1]; exact (((Ext.refl w).alloc _).alloc _).alloc _
  have hz1 : w1.heap.size = w.heap.size + 3 := by rw [hw1]; simp
  clear hw1
  go_cut [5, 6] (fun u v wx => ∃ g h : Nat, u = .pointer (some ⟨g, 0, none⟩) ∧ v = .pointer (some ⟨h, 0, none⟩) ∧ w.heap.size + 2 < g ∧ w.heap.size + 2 < h ∧ g ≠ h ∧ Blk wx g 46 (bC p) ∧ Blk wx h 46 (bC q) ∧ Blk wx (w.heap.size + 2) 25 (setC fun _ => false) ∧ Ext w wx)
  case first =>
    refine wp_region_rely (by kernel_rfl) ?_
    refine wpAnyR_take (i := 0) (oi := jL "ref.go:58" 8 2) rfl (by kernel_rfl) (by kernel_rfl) (by kernel_rfl) (fun _ _ _ h => h) (Ext.refl w1).drew (yieldsR_load_row rfl 25 (.tmp 2) rfl w.heap.size rfl _ _ _ ha Try.underlying25 rfl (info_setC p)) ?_
    simp only [Act.put, List.setIfInBounds_toArray, List.set_cons_zero, List.set_cons_succ]
    refine wpAnyR_take (i := 1) (oi := jB "ref.go:58" 9 8 _) rfl (by kernel_rfl) (by kernel_rfl) (by kernel_rfl) (fun _ _ _ h => h) (Ext.refl w1).drew (yieldsR_call (f := 21) (args := #[setV p]) rfl (fun _ => by go_simp; try rfl) (fun W _ => HBp.out W)) ?_
    simp only [Act.put, List.setIfInBounds_toArray, List.set_cons_zero, List.set_cons_succ]
    refine wpAnyR_take (i := 2) (oi := jL "ref.go:58" 10 3) rfl (by kernel_rfl) (by kernel_rfl) (by kernel_rfl) (fun _ _ _ h => h) (Ext.refl w1).drew (yieldsR_load_row rfl 25 (.tmp 3) rfl (w.heap.size + 1) rfl _ _ _ hb Try.underlying25 rfl (info_setC q)) ?_
    simp only [Act.put, List.setIfInBounds_toArray, List.set_cons_zero, List.set_cons_succ]
    refine wpAnyR_take (i := 3) (oi := jB "ref.go:58" 11 10 _) rfl (by kernel_rfl) (by kernel_rfl) (by kernel_rfl) (fun _ _ _ h => h) (Ext.refl w1).drew (yieldsR_call (f := 21) (args := #[setV q]) rfl (fun _ => by go_simp; try rfl) (fun W _ => HBq.out W)) ?_
    simp only [Act.put, List.setIfInBounds_toArray, List.set_cons_zero, List.set_cons_succ]
    refine wpAnyR_ready (rs := [4, 5]) (by kernel_rfl) (by simp) fun w2 hx2 => ?_
    have hx2 : Ext w1 w2 := (Ext.refl w1).drew.trans hx2
    have hz2 := hx2.size
    refine AllReadyR.cons (o := jA "ref.go:58" 5) rfl rfl (fun K hK => wp_alloc_zero rfl hzz.out (hK _ _ (hx2.alloc _) ?_)) (AllReadyR.cons (o := jA "ref.go:58" 6) rfl rfl (fun K hK => wp_alloc_zero rfl hzz.out (hK _ _ (hx2.alloc _) ?_)) .nil)
    · simp only [Act.put, List.setIfInBounds_toArray, List.set_cons_zero, List.set_cons_succ]
      refine wpAnyR_ready (rs := [5]) (by kernel_rfl) (by simp) fun w3 hx3 => ?_
      clear hK K
      refine AllReadyR.cons (o := jA "ref.go:58" 6) rfl rfl (fun K hK => wp_alloc_zero rfl hzz.out (hK _ _ (((hx2.alloc _).trans hx3).alloc _) ?_)) .nil
      clear hK K
      simp only [Act.put, List.setIfInBounds_toArray, List.set_cons_zero, List.set_cons_succ]
      have hG := ((Blk.new w2 46 (bC fun _ => false)).ext hx3).alloc (.cells (bC fun _ => false) 46)
      have hH := Blk.new w3 46 (bC fun _ => false)
      have hX := ((hx2.alloc (.cells (bC fun _ => false) 46)).trans hx3).alloc (.cells (bC fun _ => false) 46)
      have hne : w2.heap.size ≠ w3.heap.size := by have := hx3.size; simp at this; omega
      have hzG : w1.heap.size ≤ w2.heap.size := hz2
      have hzH : w1.heap.size ≤ w3.heap.size := by have := hx3.size; simp at this; omega
      clear hx2 hx3 hz2
      generalize w3.alloc (.cells (bC fun _ => false) 46) = w4 at *
      generalize w2.heap.size = g at *
      generalize w3.heap.size = h at *
      refine wpAnyR_ready (rs := [6]) (by kernel_rfl) (by simp) fun w5 hx5 => ?_
      refine AllReadyR.cons (o := jS "ref.go:58" 5 9 _) rfl rfl (fun K hK => wp_store_row 46 (.tmp 5) (.tmp 9) rfl g (bC p) rfl rfl _ (bC fun _ => false) (hG.ext hx5) (info_boolsC p) (bC_sz _ _) (bC_one p) (hK _ _ ((hX.trans hx5).setRow (by omega) _) ?_)) .nil
      clear hK K
      simp only [Act.put]
      refine wpAnyR_ready (rs := [7]) (by kernel_rfl) (by simp) fun w6 hx6 => ?_
      refine AllReadyR.cons (o := jS "ref.go:58" 6 11 _) rfl rfl (fun K hK => wp_store_row 46 (.tmp 6) (.tmp 11) rfl h (bC q) rfl rfl _ (bC fun _ => false) (((hH.ext hx5).rowFar (by omega)).ext hx6) (info_boolsC q) (bC_sz _ _) (bC_one q) (hK _ _ ((((hX.trans hx5).setRow (by omega) _).trans hx6).setRow (by omega) _) ?_)) .nil
      clear hK K
      refine wpAnyR_done (by kernel_rfl) (fun w7 hx7 => ?_) _
      have k1 : Ext w1 w7 := (((((hX.trans hx5).setRow (by omega) _).trans hx6).setRow (by omega) _)).trans hx7
      go_wp2
      go_meet
      case rel =>
       refine ⟨g, h, rfl, rfl, by omega, by omega, by omega, ?_, ?_, hr.ext k1, hx1.trans k1⟩
       · exact ((((hG.ext hx5).setRow).ext hx6).rowFar (by omega)).ext hx7
       · exact ((((hH.ext hx5).rowFar (by omega)).ext hx6).setRow).ext hx7
    · simp only [Act.put, List.setIfInBounds_toArray, List.set_cons_zero, List.set_cons_succ]
      refine wpAnyR_ready (rs := [4]) (by kernel_rfl) (by simp) fun w3 hx3 => ?_
      clear hK K
      refine AllReadyR.cons (o := jA "ref.go:58" 5) rfl rfl (fun K hK => wp_alloc_zero rfl hzz.out (hK _ _ (((hx2.alloc _).trans hx3).alloc _) ?_)) .nil
      clear hK K
      simp only [Act.put, List.setIfInBounds_toArray, List.set_cons_zero, List.set_cons_succ]
      have hG := ((Blk.new w2 46 (bC fun _ => false)).ext hx3).alloc (.cells (bC fun _ => false) 46)
      have hH := Blk.new w3 46 (bC fun _ => false)
      have hX := ((hx2.alloc (.cells (bC fun _ => false) 46)).trans hx3).alloc (.cells (bC fun _ => false) 46)
      have hne : w2.heap.size ≠ w3.heap.size := by have := hx3.size; simp at this; omega
      have hzG : w1.heap.size ≤ w2.heap.size := hz2
      have hzH : w1.heap.size ≤ w3.heap.size := by have := hx3.size; simp at this; omega
      clear hx2 hx3 hz2
      generalize w3.alloc (.cells (bC fun _ => false) 46) = w4 at *
      generalize w2.heap.size = h at *
      generalize w3.heap.size = g at *
      refine wpAnyR_ready (rs := [6]) (by kernel_rfl) (by simp) fun w5 hx5 => ?_
      refine AllReadyR.cons (o := jS "ref.go:58" 5 9 _) rfl rfl (fun K hK => wp_store_row 46 (.tmp 5) (.tmp 9) rfl g (bC p) rfl rfl _ (bC fun _ => false) (hH.ext hx5) (info_boolsC p) (bC_sz _ _) (bC_one p) (hK _ _ ((hX.trans hx5).setRow (by omega) _) ?_)) .nil
      clear hK K
      simp only [Act.put]
      refine wpAnyR_ready (rs := [7]) (by kernel_rfl) (by simp) fun w6 hx6 => ?_
      refine AllReadyR.cons (o := jS "ref.go:58" 6 11 _) rfl rfl (fun K hK => wp_store_row 46 (.tmp 6) (.tmp 11) rfl h (bC q) rfl rfl _ (bC fun _ => false) (((hG.ext hx5).rowFar (by omega)).ext hx6) (info_boolsC q) (bC_sz _ _) (bC_one q) (hK _ _ ((((hX.trans hx5).setRow (by omega) _).trans hx6).setRow (by omega) _) ?_)) .nil
      clear hK K
      refine wpAnyR_done (by kernel_rfl) (fun w7 hx7 => ?_) _
      have k1 : Ext w1 w7 := (((((hX.trans hx5).setRow (by omega) _).trans hx6).setRow (by omega) _)).trans hx7
      go_wp2
      go_meet
      case rel =>
       refine ⟨g, h, rfl, rfl, by omega, by omega, by omega, ?_, ?_, hr.ext k1, hx1.trans k1⟩
       · exact ((((hH.ext hx5).setRow).ext hx6).rowFar (by omega)).ext hx7
       · exact ((((hG.ext hx5).rowFar (by omega)).ext hx6).setRow).ext hx7
  case rest =>
    obtain ⟨g, h, rfl, rfl, hg, hh, hne, hG, hH, hR, hX⟩ := hcut
    clear ha hb hr hx1 hz1 HBp HBq w1
    go_wp2
    go_loopw [7] (fun i wr => ∃ k : Nat, k ≤ 256 ∧ i = .int .i64 k ∧ Blk wr g 46 (bC (upB (fun b => p b || q b) p k)) ∧ Blk wr h 46 (bC q) ∧ Blk wr (w.heap.size + 2) 25 (setC fun _ => false) ∧ Ext w wr) (fun i _ => 256 - (intOf i).toNat)
    case atStart => exact ⟨0, by omega, rfl, by rw [upB_zero]; exact hG, hH, hR, hX⟩
    case round =>
      clear hG hH hR hX
      obtain ⟨k, hk, rfl, hs, ht, hr, hx⟩ := hrel
      by_cases hlt : k < 256
      · have c2 := hs.cell k
        rw [bC_get _ _ hlt, upB_here] at c2
        have c3 := ht.cell k
        rw [bC_get _ _ hlt] at c3
        have f2 := hs.frozen k
        have hset := bC_set (upB (fun b => p b || q b) p k) (upB (fun b => p b || q b) p (k + 1)) k (p k || q k) (upB_at _ _ _) (upB_ne _ _ _)
        have HS := Lib.hid hset
        clear hset
        cases hp : p k with
        | false =>
          rw [hp] at c2
          have HP := Lib.hid hp
          clear hp
          go_wp2
          go_roundw
          case rel =>
            refine ⟨k + 1, by omega, by go_num, ?_, ht.far (by simp; omega) _, hr.far (by simp; omega) _, hx.setCell (by simp; omega) _⟩
            rw [← HS.out, HP.out, Bool.false_or]
            exact hs.set k _
          case measure => simp [intOf]; omega
        | true =>
          rw [hp] at c2
          have HP := Lib.hid hp
          clear hp
          go_wp2
          go_roundw
          case rel =>
            refine ⟨k + 1, by omega, by go_num, ?_, ht.far (by simp; omega) _, hr.far (by simp; omega) _, hx.setCell (by simp; omega) _⟩
            rw [← HS.out, HP.out, Bool.true_or]
            exact hs.set k _
          case measure => simp [intOf]; omega
      · rw [upB_full _ _ _ (by omega)] at hs
        go_wp2_with (first
          | (refine wpl_loadB rfl (.tmp 5) rfl g _ (fun b => p b || q b) rfl hs ?_)
          | (go_at_call 22; refine (HM.out _ _).mono ?_; rintro e w4 ⟨rfl, hx4⟩)
          | (refine wpl_storeSet rfl (.tmp 4) (.tmp 27) rfl (w.heap.size + 2) _ (fun b => p b || q b) (fun _ => false) rfl rfl (hr.ext hx4) ?_))
        exact ret_set rfl rfl rfl (hr.ext hx4).setRow ⟨rfl, (hx.trans hx4).setRow (by omega) _⟩

set_option maxRecDepth 100000 in
set_option maxHeartbeats 2000000 in
theorem rMeet_any (p q : Nat → Bool) (w : World) :
    Calls Try.prog 9 #[setV p, setV q] w fun r w' => r = .returned (setV fun b => p b && q b) ∧ Ext w w' := by
  have HBp := Lib.hid (fun W => bits_any p W)
  have HBq := Lib.hid (fun W => bits_any q W)
  have HM := Lib.hid (fun q W => made_any q W)
  have hzz := Lib.hid zero_bools
  unfold setV u64v
  go_enter Try.func9, Try.ntmps9
  go_wp2
  obtain ⟨w1, hw1⟩ : ∃ w1, w1 = ((w.alloc (.cells #[.int .u64 (wd p 0 : Int), .int .u64 (wd p 1 : Int), .int .u64 (wd p 2 : Int), .int .u64 (wd p 3 : Int)] 25)).alloc (.cells #[.int .u64 (wd q 0 : Int), .int .u64 (wd q 1 : Int), .int .u64 (wd q 2 : Int), .int .u64 (wd q 3 : Int)] 25)).alloc (.cells #[.int .u64 0, .int .u64 0, .int .u64 0, .int .u64 0] 25) := ⟨_, rfl⟩
  rw [← hw1]
  have ha : Blk w1 w.heap.size 25 (setC p) := by rw [hw1]; exact (((Blk.new w 25 (setC p)).alloc _).alloc _)
  have hb : Blk w1 (w.heap.size + 1) 25 (setC q) := by
    rw [hw1]
    exact (show Blk _ _ _ _ from heap_alloc2_new w (.cells (setC p) 25) (.cells (setC q) 25)).alloc _
  have hr : Blk w1 (w.heap.size + 2) 25 (setC fun _ => false) := by
    rw [hw1, setC_none]
    have := heap_alloc2_new (w.alloc (.cells (setC p) 25)) (.cells (setC q) 25) (.cells #[.int .u64 0, .int .u64 0, .int .u64 0, .int .u64 0] 25)
    rw [World.size_alloc] at this
    exact this
  have hx1 : Ext w w1 := by rw [hw1]; exact (((Ext.refl w).alloc _).alloc _).alloc _
  have hz1 : w1.heap.size = w.heap.size + 3 := by rw [hw1]; simp
  clear hw1
  go_cut [5, 6] (fun u v wx => ∃ g h : Nat, u = .pointer (some ⟨g, 0, none⟩) ∧ v = .pointer (some ⟨h, 0, none⟩) ∧ w.heap.size + 2 < g ∧ w.heap.size + 2 < h ∧ g ≠ h ∧ Blk wx g 46 (bC p) ∧ Blk wx h 46 (bC q) ∧ Blk wx (w.heap.size + 2) 25 (setC fun _ => false) ∧ Ext w wx)
  case first =>
    refine wp_region_rely (by kernel_rfl) ?_
    refine wpAnyR_take (i := 0) (oi := jL "ref.go:67" 8 2) rfl (by kernel_rfl) (by kernel_rfl) (by kernel_rfl) (fun _ _ _ h => h) (Ext.refl w1).drew (yieldsR_load_row rfl 25 (.tmp 2) rfl w.heap.size rfl _ _ _ ha Try.underlying25 rfl (info_setC p)) ?_
    simp only [Act.put, List.setIfInBounds_toArray, List.set_cons_zero, List.set_cons_succ]
    refine wpAnyR_take (i := 1) (oi := jB "ref.go:67" 9 8 _) rfl (by kernel_rfl) (by kernel_rfl) (by kernel_rfl) (fun _ _ _ h => h) (Ext.refl w1).drew (yieldsR_call (f := 21) (args := #[setV p]) rfl (fun _ => by go_simp; try rfl) (fun W _ => HBp.out W)) ?_
    simp only [Act.put, List.setIfInBounds_toArray, List.set_cons_zero, List.set_cons_succ]
    refine wpAnyR_take (i := 2) (oi := jL "ref.go:67" 10 3) rfl (by kernel_rfl) (by kernel_rfl) (by kernel_rfl) (fun _ _ _ h => h) (Ext.refl w1).drew (yieldsR_load_row rfl 25 (.tmp 3) rfl (w.heap.size + 1) rfl _ _ _ hb Try.underlying25 rfl (info_setC q)) ?_
    simp only [Act.put, List.setIfInBounds_toArray, List.set_cons_zero, List.set_cons_succ]
    refine wpAnyR_take (i := 3) (oi := jB "ref.go:67" 11 10 _) rfl (by kernel_rfl) (by kernel_rfl) (by kernel_rfl) (fun _ _ _ h => h) (Ext.refl w1).drew (yieldsR_call (f := 21) (args := #[setV q]) rfl (fun _ => by go_simp; try rfl) (fun W _ => HBq.out W)) ?_
    simp only [Act.put, List.setIfInBounds_toArray, List.set_cons_zero, List.set_cons_succ]
    refine wpAnyR_ready (rs := [4, 5]) (by kernel_rfl) (by simp) fun w2 hx2 => ?_
    have hx2 : Ext w1 w2 := (Ext.refl w1).drew.trans hx2
    have hz2 := hx2.size
    refine AllReadyR.cons (o := jA "ref.go:67" 5) rfl rfl (fun K hK => wp_alloc_zero rfl hzz.out (hK _ _ (hx2.alloc _) ?_)) (AllReadyR.cons (o := jA "ref.go:67" 6) rfl rfl (fun K hK => wp_alloc_zero rfl hzz.out (hK _ _ (hx2.alloc _) ?_)) .nil)
    · simp only [Act.put, List.setIfInBounds_toArray, List.set_cons_zero, List.set_cons_succ]
      refine wpAnyR_ready (rs := [5]) (by kernel_rfl) (by simp) fun w3 hx3 => ?_
      clear hK K
      refine AllReadyR.cons (o := jA "ref.go:67" 6) rfl rfl (fun K hK => wp_alloc_zero rfl hzz.out (hK _ _ (((hx2.alloc _).trans hx3).alloc _) ?_)) .nil
      clear hK K
      simp only [Act.put, List.setIfInBounds_toArray, List.set_cons_zero, List.set_cons_succ]
      have hG := ((Blk.new w2 46 (bC fun _ => false)).ext hx3).alloc (.cells (bC fun _ => false) 46)
      have hH := Blk.new w3 46 (bC fun _ => false)
      have hX := ((hx2.alloc (.cells (bC fun _ => false) 46)).trans hx3).alloc (.cells (bC fun _ => false) 46)
      have hne : w2.heap.size ≠ w3.heap.size := by have := hx3.size; simp at this; omega
      have hzG : w1.heap.size ≤ w2.heap.size := hz2
      have hzH : w1.heap.size ≤ w3.heap.size := by have := hx3.size; simp at this; omega
      clear hx2 hx3 hz2
      generalize w3.alloc (.cells (bC fun _ => false) 46) = w4 at *
      generalize w2.heap.size = g at *
      generalize w3.heap.size = h at *
      refine wpAnyR_ready (rs := [6]) (by kernel_rfl) (by simp) fun w5 hx5 => ?_
      refine AllReadyR.cons (o := jS "ref.go:67" 5 9 _) rfl rfl (fun K hK => wp_store_row 46 (.tmp 5) (.tmp 9) rfl g (bC p) rfl rfl _ (bC fun _ => false) (hG.ext hx5) (info_boolsC p) (bC_sz _ _) (bC_one p) (hK _ _ ((hX.trans hx5).setRow (by omega) _) ?_)) .nil
      clear hK K
      simp only [Act.put]
      refine wpAnyR_ready (rs := [7]) (by kernel_rfl) (by simp) fun w6 hx6 => ?_
      refine AllReadyR.cons (o := jS "ref.go:67" 6 11 _) rfl rfl (fun K hK => wp_store_row 46 (.tmp 6) (.tmp 11) rfl h (bC q) rfl rfl _ (bC fun _ => false) (((hH.ext hx5).rowFar (by omega)).ext hx6) (info_boolsC q) (bC_sz _ _) (bC_one q) (hK _ _ ((((hX.trans hx5).setRow (by omega) _).trans hx6).setRow (by omega) _) ?_)) .nil
      clear hK K
      refine wpAnyR_done (by kernel_rfl) (fun w7 hx7 => ?_) _
      have k1 : Ext w1 w7 := (((((hX.trans hx5).setRow (by omega) _).trans hx6).setRow (by omega) _)).trans hx7
      go_wp2
      go_meet
      case rel =>
       refine ⟨g, h, rfl, rfl, by omega, by omega, by omega, ?_, ?_, hr.ext k1, hx1.trans k1⟩
       · exact ((((hG.ext hx5).setRow).ext hx6).rowFar (by omega)).ext hx7
       · exact ((((hH.ext hx5).rowFar (by omega)).ext hx6).setRow).ext hx7
    · simp only [Act.put, List.setIfInBounds_toArray, List.set_cons_zero, List.set_cons_succ]
      refine wpAnyR_ready (rs := [4]) (by kernel_rfl) (by simp) fun w3 hx3 => ?_
      clear hK K
      refine AllReadyR.cons (o := jA "ref.go:67" 5) rfl rfl (fun K hK => wp_alloc_zero rfl hzz.out (hK _ _ (((hx2.alloc _).trans hx3).alloc _) ?_)) .nil
      clear hK K
      simp only [Act.put, List.setIfInBounds_toArray, List.set_cons_zero, List.set_cons_succ]
      have hG := ((Blk.new w2 46 (bC fun _ => false)).ext hx3).alloc (.cells (bC fun _ => false) 46)
      have hH := Blk.new w3 46 (bC fun _ => false)
      have hX := ((hx2.alloc (.cells (bC fun _ => false) 46)).trans hx3).alloc (.cells (bC fun _ => false) 46)
      have hne : w2.heap.size ≠ w3.heap.size := by have := hx3.size; simp at this; omega
      have hzG : w1.heap.size ≤ w2.heap.size := hz2
      have hzH : w1.heap.size ≤ w3.heap.size := by have := hx3.size; simp at this; omega
      clear hx2 hx3 hz2
      generalize w3.alloc (.cells (bC fun _ => false) 46) = w4 at *
      generalize w2.heap.size = h at *
      generalize w3.heap.size = g at *
      refine wpAnyR_ready (rs := [6]) (by kernel_rfl) (by simp) fun w5 hx5 => ?_
      refine AllReadyR.cons (o := jS "ref.go:67" 5 9 _) rfl rfl (fun K hK => wp_store_row 46 (.tmp 5) (.tmp 9) rfl g (bC p) rfl rfl _ (bC fun _ => false) (hH.ext hx5) (info_boolsC p) (bC_sz _ _) (bC_one p) (hK _ _ ((hX.trans hx5).setRow (by omega) _) ?_)) .nil
      clear hK K
      simp only [Act.put]
      refine wpAnyR_ready (rs := [7]) (by kernel_rfl) (by simp) fun w6 hx6 => ?_
      refine AllReadyR.cons (o := jS "ref.go:67" 6 11 _) rfl rfl (fun K hK => wp_store_row 46 (.tmp 6) (.tmp 11) rfl h (bC q) rfl rfl _ (bC fun _ => false) (((hG.ext hx5).rowFar (by omega)).ext hx6) (info_boolsC q) (bC_sz _ _) (bC_one q) (hK _ _ ((((hX.trans hx5).setRow (by omega) _).trans hx6).setRow (by omega) _) ?_)) .nil
      clear hK K
      refine wpAnyR_done (by kernel_rfl) (fun w7 hx7 => ?_) _
      have k1 : Ext w1 w7 := (((((hX.trans hx5).setRow (by omega) _).trans hx6).setRow (by omega) _)).trans hx7
      go_wp2
      go_meet
      case rel =>
       refine ⟨g, h, rfl, rfl, by omega, by omega, by omega, ?_, ?_, hr.ext k1, hx1.trans k1⟩
       · exact ((((hH.ext hx5).setRow).ext hx6).rowFar (by omega)).ext hx7
       · exact ((((hG.ext hx5).rowFar (by omega)).ext hx6).setRow).ext hx7
  case rest =>
    obtain ⟨g, h, rfl, rfl, hg, hh, hne, hG, hH, hR, hX⟩ := hcut
    clear ha hb hr hx1 hz1 HBp HBq w1
    go_wp2
    go_loopw [7] (fun i wr => ∃ k : Nat, k ≤ 256 ∧ i = .int .i64 k ∧ Blk wr g 46 (bC (upB (fun b => p b && q b) p k)) ∧ Blk wr h 46 (bC q) ∧ Blk wr (w.heap.size + 2) 25 (setC fun _ => false) ∧ Ext w wr) (fun i _ => 256 - (intOf i).toNat)
    case atStart => exact ⟨0, by omega, rfl, by rw [upB_zero]; exact hG, hH, hR, hX⟩
    case round =>
      clear hG hH hR hX
      obtain ⟨k, hk, rfl, hs, ht, hr, hx⟩ := hrel
      by_cases hlt : k < 256
      · have c2 := hs.cell k
        rw [bC_get _ _ hlt, upB_here] at c2
        have c3 := ht.cell k
        rw [bC_get _ _ hlt] at c3
        have f2 := hs.frozen k
        have hset := bC_set (upB (fun b => p b && q b) p k) (upB (fun b => p b && q b) p (k + 1)) k (p k && q k) (upB_at _ _ _) (upB_ne _ _ _)
        have HS := Lib.hid hset
        clear hset
        cases hp : p k with
        | false =>
          rw [hp] at c2
          have HP := Lib.hid hp
          clear hp
          go_wp2
          go_roundw
          case rel =>
            refine ⟨k + 1, by omega, by go_num, ?_, ht.far (by simp; omega) _, hr.far (by simp; omega) _, hx.setCell (by simp; omega) _⟩
            rw [← HS.out, HP.out, Bool.false_and]
            exact hs.set k _
          case measure => simp [intOf]; omega
        | true =>
          rw [hp] at c2
          have HP := Lib.hid hp
          clear hp
          go_wp2
          go_roundw
          case rel =>
            refine ⟨k + 1, by omega, by go_num, ?_, ht.far (by simp; omega) _, hr.far (by simp; omega) _, hx.setCell (by simp; omega) _⟩
            rw [← HS.out, HP.out, Bool.true_and]
            exact hs.set k _
          case measure => simp [intOf]; omega
      · rw [upB_full _ _ _ (by omega)] at hs
        go_wp2_with (first
          | (refine wpl_loadB rfl (.tmp 5) rfl g _ (fun b => p b && q b) rfl hs ?_)
          | (go_at_call 22; refine (HM.out _ _).mono ?_; rintro e w4 ⟨rfl, hx4⟩)
          | (refine wpl_storeSet rfl (.tmp 4) (.tmp 27) rfl (w.heap.size + 2) _ (fun b => p b && q b) (fun _ => false) rfl rfl (hr.ext hx4) ?_))
        exact ret_set rfl rfl rfl (hr.ext hx4).setRow ⟨rfl, (hx.trans hx4).setRow (by omega) _⟩

end Go.Proofs.Ytfgocamajfipmaa
