/- The program's Named, name by name (digit xdigit). No condition. -/
import Derived.Test.YteahmkhmkalimaaDoorNamed
namespace Go.Proofs.YteahmkhmkalimaaDoor
open Go.RowKit

set_option maxRecDepth 100000 in
set_option maxHeartbeats 8000000 in
theorem named_digit (w : World) :
    Calls Tryd.prog 23 #[.string ⟨#[100, 105, 103, 105, 116]⟩] w fun r w' => r = .returned (.tuple #[setV digitB, .nilIface]) ∧ Ext w w' := by
  have HR0 := Lib.hid (fun W => range_a 48 57 48 57 W rfl rfl (by omega) (by omega))
  have HJ := Lib.hid (fun p q W t c => join2 p q W t c)
  go_enter Tryd.func23, Tryd.ntmps23
  go_upto_region 20 with fail
  rw [← setC_none]
  have hr : Blk _ _ _ _ := (Blk.new w 24 (setC noB)).alloc (.cells (setC noB) 24)
  have hs : Blk _ _ _ _ := heap_alloc2_new w (.cells (setC noB) 24) (.cells (setC noB) 24)
  have hx := ((Ext.refl w).alloc (.cells (setC noB) 24)).alloc (.cells (setC noB) 24)
  change Code.wp _ _ _ _ ((w.alloc (.cells (setC noB) 24)).alloc (.cells (setC noB) 24))
  generalize (w.alloc (.cells (setC noB) 24)).alloc (.cells (setC noB) 24) = w1 at *
  have hz0 := hs.lt
  obtain ⟨a0, a1, a2, a3, _, _, _, _⟩ := setC_cells hs
  have p0 := cell_plus a0
  have p1 := cell_plus a1
  have p2 := cell_plus a2
  have p3 := cell_plus a3
  refine wp_region_plus_tail 2 (by kernel_rfl) (by kernel_rfl) ?_
  simp only [List.take_succ_cons, List.take_zero, List.drop_succ_cons, List.drop_zero]
  repeat (go_big_quiet_step ((go_at_call 13; exact Calls.plus_of (HR0.out _))))
  refine wpQuiet_nil ?_
  intro x
  clear a0 a1 a2 a3 p0 p1 p2 p3
  go_wp2_with (first
    | (go_at_call 36; ((with_reducible refine (HJ.out (noB) (rangeB 48 57) _ _ _).mono ?_); rintro e w3 ⟨rfl, hx3⟩; have hxx := (plus_ext w1 x).trans hx3))
    | (refine wpl_storeSet rfl (.tmp 4) (.tmp 52) rfl (w.heap.size + 1) 24 (fun b => (noB) b || rangeB 48 57 b) (noB) rfl rfl (hs.ext hxx) ?_; have hsF := (hs.ext hxx).setRow (cs' := setC (fun b => (noB) b || rangeB 48 57 b)); have hrF := (hr.ext hxx).rowFar (g := w.heap.size + 1) (cs' := setC (fun b => (noB) b || rangeB 48 57 b)) (by omega); have hxF := (hx.trans hxx).setRow (g := w.heap.size + 1) (by omega) (setC (fun b => (noB) b || rangeB 48 57 b)))
    | (refine wpl_loadSet rfl (.tmp 4) rfl (w.heap.size + 1) _ (fun b => (noB) b || rangeB 48 57 b) rfl hsF ?_)
    | (refine wpl_storeSet rfl (.tmp 2) (.tmp 79) rfl w.heap.size _ (fun b => (noB) b || rangeB 48 57 b) noB rfl rfl hrF ?_))
  have e := setV_congr (p := fun b => (noB) b || rangeB 48 57 b) (q := digitB) (fun b hb => by exact (by decide +kernel : ∀ x : Fin 256, (fun b => (noB) b || rangeB 48 57 b) x.val = digitB x.val) ⟨b, hb⟩)
  rw [← e]
  exact ret_set2 rfl rfl rfl hrF.setRow ⟨rfl, hxF.setRow (by omega) _⟩

set_option maxRecDepth 100000 in
set_option maxHeartbeats 8000000 in
theorem named_xdigit (w : World) :
    Calls Tryd.prog 23 #[.string ⟨#[120, 100, 105, 103, 105, 116]⟩] w fun r w' => r = .returned (.tuple #[setV xdigitB, .nilIface]) ∧ Ext w w' := by
  have HR0 := Lib.hid (fun W => range_a 65 70 65 70 W rfl rfl (by omega) (by omega))
  have HQ0 := Lib.hid (fun W => range_a 97 102 97 102 W rfl rfl (by omega) (by omega))
  have HR1 := Lib.hid (fun W => range_a 48 57 48 57 W rfl rfl (by omega) (by omega))
  have HJ := Lib.hid (fun p q W t c => join2 p q W t c)
  go_enter Tryd.func23, Tryd.ntmps23
  go_upto_region 19 with fail
  rw [← setC_none]
  have hr : Blk _ _ _ _ := (Blk.new w 24 (setC noB)).alloc (.cells (setC noB) 24)
  have hs : Blk _ _ _ _ := heap_alloc2_new w (.cells (setC noB) 24) (.cells (setC noB) 24)
  have hx := ((Ext.refl w).alloc (.cells (setC noB) 24)).alloc (.cells (setC noB) 24)
  change Code.wp _ _ _ _ ((w.alloc (.cells (setC noB) 24)).alloc (.cells (setC noB) 24))
  generalize (w.alloc (.cells (setC noB) 24)).alloc (.cells (setC noB) 24) = w1 at *
  have hz0 := hs.lt
  go_upto_region 20 with (first
    | (go_at_call 13; ((with_reducible refine (HR0.out _).mono ?_); rintro e w2 ⟨rfl, hx2⟩))
    | (go_at_call 13; ((with_reducible refine (HQ0.out _).mono ?_); rintro e w4 ⟨rfl, hx4⟩))
    | (go_at_call 36; ((with_reducible refine (HJ.out (rangeB 65 70) (rangeB 97 102) _ _ _).mono ?_); rintro e w3 ⟨rfl, hx3⟩; have hxx := (hx2.trans hx4).trans hx3))
    | (refine wpl_storeSet rfl (.tmp 4) (.tmp 48) rfl (w.heap.size + 1) 24 (fun b => rangeB 65 70 b || rangeB 97 102 b) (noB) rfl rfl (hs.ext hxx) ?_; have hsF := (hs.ext hxx).setRow (cs' := setC (fun b => rangeB 65 70 b || rangeB 97 102 b)); have hrF := (hr.ext hxx).rowFar (g := w.heap.size + 1) (cs' := setC (fun b => rangeB 65 70 b || rangeB 97 102 b)) (by omega); have hxF := (hx.trans hxx).setRow (g := w.heap.size + 1) (by omega) (setC (fun b => rangeB 65 70 b || rangeB 97 102 b))))
  obtain ⟨P0, HP0⟩ : ∃ P : Nat → Bool, Hid (P = fun b => rangeB 65 70 b || rangeB 97 102 b) := ⟨_, Lib.hid rfl⟩
  obtain ⟨w5, hw⟩ : ∃ W, Hid (W = w3.setRow (w.heap.size + 1) (setC (fun b => rangeB 65 70 b || rangeB 97 102 b))) := ⟨_, Lib.hid rfl⟩
  rw [← hw.out] at hsF hrF hxF ⊢
  rw [← HP0.out] at hsF
  try dsimp only [Act.put]
  clear hw hs hr hx hxx
  have hs := hsF
  have hr := hrF
  have hx := hxF
  clear hsF hrF hxF
  obtain ⟨w1, rfl⟩ : ∃ w1 : World, w1 = w5 := ⟨_, rfl⟩
  have hz1 := hs.lt
  obtain ⟨a0, a1, a2, a3, _, _, _, _⟩ := setC_cells hs
  have p0 := cell_plus a0
  have p1 := cell_plus a1
  have p2 := cell_plus a2
  have p3 := cell_plus a3
  refine wp_region_plus_tail 2 (by kernel_rfl) (by kernel_rfl) ?_
  simp only [List.take_succ_cons, List.take_zero, List.drop_succ_cons, List.drop_zero]
  repeat (go_big_quiet_step ((go_at_call 13; exact Calls.plus_of (HR1.out _))))
  refine wpQuiet_nil ?_
  intro x
  clear a0 a1 a2 a3 p0 p1 p2 p3
  go_wp2_with (first
    | (go_at_call 36; ((with_reducible refine (HJ.out (P0) (rangeB 48 57) _ _ _).mono ?_); rintro e w3 ⟨rfl, hx3⟩; have hxx := (plus_ext w1 x).trans hx3))
    | (refine wpl_storeSet rfl (.tmp 4) (.tmp 52) rfl (w.heap.size + 1) 24 (fun b => (P0) b || rangeB 48 57 b) (P0) rfl rfl (hs.ext hxx) ?_; have hsF := (hs.ext hxx).setRow (cs' := setC (fun b => (P0) b || rangeB 48 57 b)); have hrF := (hr.ext hxx).rowFar (g := w.heap.size + 1) (cs' := setC (fun b => (P0) b || rangeB 48 57 b)) (by omega); have hxF := (hx.trans hxx).setRow (g := w.heap.size + 1) (by omega) (setC (fun b => (P0) b || rangeB 48 57 b)))
    | (refine wpl_loadSet rfl (.tmp 4) rfl (w.heap.size + 1) _ (fun b => (P0) b || rangeB 48 57 b) rfl hsF ?_)
    | (refine wpl_storeSet rfl (.tmp 2) (.tmp 79) rfl w.heap.size _ (fun b => (P0) b || rangeB 48 57 b) noB rfl rfl hrF ?_))
  have e := setV_congr (p := fun b => (P0) b || rangeB 48 57 b) (q := xdigitB) (fun b hb => by rw [HP0.out]; exact (by decide +kernel : ∀ x : Fin 256, (fun b => ((fun b => rangeB 65 70 b || rangeB 97 102 b)) b || rangeB 48 57 b) x.val = xdigitB x.val) ⟨b, hb⟩)
  rw [← e]
  exact ret_set2 rfl rfl rfl hrF.setRow ⟨rfl, hxF.setRow (by omega) _⟩


end Go.Proofs.YteahmkhmkalimaaDoor
