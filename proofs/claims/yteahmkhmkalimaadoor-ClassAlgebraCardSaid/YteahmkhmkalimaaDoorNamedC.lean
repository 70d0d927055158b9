/- The program's Named, name by name (blank space). No condition. -/
import Derived.Test.YteahmkhmkalimaaDoorNamed
namespace Go.Proofs.YteahmkhmkalimaaDoor
open Go.RowKit

set_option maxRecDepth 100000 in
set_option maxHeartbeats 8000000 in
theorem named_blank (w : World) :
    Calls Tryd.prog 23 #[.string ⟨#[98, 108, 97, 110, 107]⟩] w fun r w' => r = .returned (.tuple #[setV blankB, .nilIface]) ∧ Ext w w' := by
  have HJ := Lib.hid (fun p q W t c => join2 p q W t c)
  have HO := Lib.hid (fun W t c => of2_a 9 32 9 32 W t c rfl rfl (by omega) (by omega))
  go_enter Tryd.func23, Tryd.ntmps23
  go_upto_region 22 with fail
  rw [← setC_none]
  have hr : Blk _ _ _ _ := (Blk.new w 24 (setC noB)).alloc (.cells (setC noB) 24)
  have hs : Blk _ _ _ _ := heap_alloc2_new w (.cells (setC noB) 24) (.cells (setC noB) 24)
  have hx := ((Ext.refl w).alloc (.cells (setC noB) 24)).alloc (.cells (setC noB) 24)
  change Code.wp _ _ _ _ ((w.alloc (.cells (setC noB) 24)).alloc (.cells (setC noB) 24))
  generalize (w.alloc (.cells (setC noB) 24)).alloc (.cells (setC noB) 24) = w1 at *
  have hz0 := hs.lt
  obtain ⟨a0, a1, a2, a3, _, _, _, _⟩ := setC_cells hs
  go_cut [3] (fun u wx => u = .nilIface ∧ Blk wx (w.heap.size + 1) 24 (setC (fun b => (noB) b || (fun x => x == 9 || x == 32) b)) ∧ Blk wx w.heap.size 24 (setC noB) ∧ Ext w wx)
  case first =>
    go_region_with (first
      | (go_at_call 11; refine (HO.out w1.drew _ _).mono ?_; rintro e w2 ⟨rfl, hx2⟩; have hxx2 : Ext w1 w2 := (Ext.refl w1).drew.trans hx2; obtain ⟨b0, b1, b2, b3, _, _, _, _⟩ := setC_cells (hs.ext hxx2))
      | (go_at_call 36; ((with_reducible refine (HJ.out (noB) (fun x => x == 9 || x == 32) _ _ _).mono ?_); rintro e w3 ⟨rfl, hx3⟩; have hxx := hxx2.trans hx3; obtain ⟨d0, d1, d2, d3, f0, f1, f2, f3⟩ := setC_cells (hs.ext hxx))))
    all_goals
      go_wp2
      go_meet
      case rel =>
        refine ⟨rfl, ((((hs.ext hxx).set 0 _).set 1 _).set 2 _).set 3 _, ((((hr.ext hxx).far (by simp) _).far (by simp) _).far (by simp) _).far (by simp) _, ((((hx.trans hxx).setCell (by simp) _).setCell (by simp) _).setCell (by simp) _).setCell (by simp) _⟩
  case rest =>
    clear hs hr hx a0 a1 a2 a3
    obtain ⟨rfl, hsF, hrF, hxF⟩ := hcut
    go_wp2_with (first
    | (refine wpl_loadSet rfl (.tmp 4) rfl (w.heap.size + 1) _ (fun b => (noB) b || (fun x => x == 9 || x == 32) b) rfl hsF ?_)
    | (refine wpl_storeSet rfl (.tmp 2) (.tmp 79) rfl w.heap.size _ (fun b => (noB) b || (fun x => x == 9 || x == 32) b) noB rfl rfl hrF ?_))
    have e := setV_congr (p := fun b => (noB) b || (fun x => x == 9 || x == 32) b) (q := blankB) (fun b hb => by exact (by decide +kernel : ∀ x : Fin 256, (fun b => (noB) b || (fun x => x == 9 || x == 32) b) x.val = blankB x.val) ⟨b, hb⟩)
    rw [← e]
    exact ret_set2 rfl rfl rfl hrF.setRow ⟨rfl, hxF.setRow (by omega) _⟩

set_option maxRecDepth 100000 in
set_option maxHeartbeats 8000000 in
theorem named_space (w : World) :
    Calls Tryd.prog 23 #[.string ⟨#[115, 112, 97, 99, 101]⟩] w fun r w' => r = .returned (.tuple #[setV spaceB, .nilIface]) ∧ Ext w w' := by
  have HR0 := Lib.hid (fun W => range_a 10 13 10 13 W rfl rfl (by omega) (by omega))
  have HJ := Lib.hid (fun p q W t c => join2 p q W t c)
  have HO := Lib.hid (fun W t c => of2_a 9 32 9 32 W t c rfl rfl (by omega) (by omega))
  go_enter Tryd.func23, Tryd.ntmps23
  go_upto_region 21 with fail
  rw [← setC_none]
  have hr : Blk _ _ _ _ := (Blk.new w 24 (setC noB)).alloc (.cells (setC noB) 24)
  have hs : Blk _ _ _ _ := heap_alloc2_new w (.cells (setC noB) 24) (.cells (setC noB) 24)
  have hx := ((Ext.refl w).alloc (.cells (setC noB) 24)).alloc (.cells (setC noB) 24)
  change Code.wp _ _ _ _ ((w.alloc (.cells (setC noB) 24)).alloc (.cells (setC noB) 24))
  generalize (w.alloc (.cells (setC noB) 24)).alloc (.cells (setC noB) 24) = w1 at *
  have hz0 := hs.lt
  go_upto_region 22 with (first
    | (go_at_call 13; ((with_reducible refine (HR0.out _).mono ?_); rintro e w3 ⟨rfl, hxx⟩))
    | (refine wpl_storeSet rfl (.tmp 4) (.tmp 53) rfl (w.heap.size + 1) 24 (rangeB 10 13) (noB) rfl rfl (hs.ext hxx) ?_; have hsF := (hs.ext hxx).setRow (cs' := setC (rangeB 10 13)); have hrF := (hr.ext hxx).rowFar (g := w.heap.size + 1) (cs' := setC (rangeB 10 13)) (by omega); have hxF := (hx.trans hxx).setRow (g := w.heap.size + 1) (by omega) (setC (rangeB 10 13))))
  obtain ⟨P0, HP0⟩ : ∃ P : Nat → Bool, Hid (P = rangeB 10 13) := ⟨_, Lib.hid rfl⟩
  obtain ⟨w5, hw⟩ : ∃ W, Hid (W = w3.setRow (w.heap.size + 1) (setC (rangeB 10 13))) := ⟨_, Lib.hid rfl⟩
  rw [← hw.out] at hsF hrF hxF ⊢
  rw [← HP0.out] at hsF
  try dsimp only [Act.put]
  clear hw hs hr hx hxx
  have hs := hsF
  have hr := hrF
  have hx := hxF
  clear hsF hrF hxF
  obtain ⟨w1, rfl⟩ : ∃ w1 : World, w1 = w5 := ⟨_, rfl⟩
  have hz1 := hs.lt
  obtain ⟨a0, a1, a2, a3, _, _, _, _⟩ := setC_cells hs
  go_cut [3] (fun u wx => u = .nilIface ∧ Blk wx (w.heap.size + 1) 24 (setC (fun b => (P0) b || (fun x => x == 9 || x == 32) b)) ∧ Blk wx w.heap.size 24 (setC noB) ∧ Ext w wx)
  case first =>
    go_region_with (first
      | (go_at_call 11; refine (HO.out w1.drew _ _).mono ?_; rintro e w2 ⟨rfl, hx2⟩; have hxx2 : Ext w1 w2 := (Ext.refl w1).drew.trans hx2; obtain ⟨b0, b1, b2, b3, _, _, _, _⟩ := setC_cells (hs.ext hxx2))
      | (go_at_call 36; ((with_reducible refine (HJ.out (P0) (fun x => x == 9 || x == 32) _ _ _).mono ?_); rintro e w3 ⟨rfl, hx3⟩; have hxx := hxx2.trans hx3; obtain ⟨d0, d1, d2, d3, f0, f1, f2, f3⟩ := setC_cells (hs.ext hxx))))
    all_goals
      go_wp2
      go_meet
      case rel =>
        refine ⟨rfl, ((((hs.ext hxx).set 0 _).set 1 _).set 2 _).set 3 _, ((((hr.ext hxx).far (by simp) _).far (by simp) _).far (by simp) _).far (by simp) _, ((((hx.trans hxx).setCell (by simp) _).setCell (by simp) _).setCell (by simp) _).setCell (by simp) _⟩
  case rest =>
    clear hs hr hx a0 a1 a2 a3
    obtain ⟨rfl, hsF, hrF, hxF⟩ := hcut
    go_wp2_with (first
    | (refine wpl_loadSet rfl (.tmp 4) rfl (w.heap.size + 1) _ (fun b => (P0) b || (fun x => x == 9 || x == 32) b) rfl hsF ?_)
    | (refine wpl_storeSet rfl (.tmp 2) (.tmp 79) rfl w.heap.size _ (fun b => (P0) b || (fun x => x == 9 || x == 32) b) noB rfl rfl hrF ?_))
    have e := setV_congr (p := fun b => (P0) b || (fun x => x == 9 || x == 32) b) (q := spaceB) (fun b hb => by rw [HP0.out]; exact (by decide +kernel : ∀ x : Fin 256, (fun b => ((rangeB 10 13)) b || (fun x => x == 9 || x == 32) b) x.val = spaceB x.val) ⟨b, hb⟩)
    rw [← e]
    exact ret_set2 rfl rfl rfl hrF.setRow ⟨rfl, hxF.setRow (by omega) _⟩


end Go.Proofs.YteahmkhmkalimaaDoor
