/- The program's Named, name by name (lower upper). No condition. -/
import Derived.Test.YteahmkhmkalimaaDoorNamed
namespace Go.Proofs.YteahmkhmkalimaaDoor
open Go.RowKit

set_option maxRecDepth 100000 in
set_option maxHeartbeats 8000000 in
theorem named_lower (w : World) :
    Calls Tryd.prog 23 #[.string ⟨#[108, 111, 119, 101, 114]⟩] w fun r w' => r = .returned (.tuple #[setV lowerB, .nilIface]) ∧ Ext w w' := by
  have HR0 := Lib.hid (fun W => range_a 97 122 97 122 W rfl rfl (by omega) (by omega))
  have HJ := Lib.hid (fun p q W t c => join2 p q W t c)
  go_enter Tryd.func23, Tryd.ntmps23
  go_upto_region 17 with fail
  rw [← setC_none]
  have hr : Blk _ _ _ _ := (Blk.new w 24 (setC noB)).alloc (.cells (setC noB) 24)
  have hs : Blk _ _ _ _ := heap_alloc2_new w (.cells (setC noB) 24) (.cells (setC noB) 24)
  have hx := ((Ext.refl w).alloc (.cells (setC noB) 24)).alloc (.cells (setC noB) 24)
  change Code.wp _ _ _ _ ((w.alloc (.cells (setC noB) 24)).alloc (.cells (setC noB) 24))
  generalize (w.alloc (.cells (setC noB) 24)).alloc (.cells (setC noB) 24) = w1 at *
  have hz0 := hs.lt
  obtain ⟨a0, a1, a2, a3, _, _, _, _⟩ := setC_cells hs
  have p0 := cell_plus a0
  have p1 := cell_plus a1
  have p2 := cell_plus a2
  have p3 := cell_plus a3
  refine wp_region_plus_tail 2 (by kernel_rfl) (by kernel_rfl) ?_
  simp only [List.take_succ_cons, List.take_zero, List.drop_succ_cons, List.drop_zero]
  repeat (go_big_quiet_step ((go_at_call 13; exact Calls.plus_of (HR0.out _))))
  refine wpQuiet_nil ?_
  intro x
  clear a0 a1 a2 a3 p0 p1 p2 p3
  go_wp2_with (first
    | (go_at_call 36; ((with_reducible refine (HJ.out (noB) (rangeB 97 122) _ _ _).mono ?_); rintro e w3 ⟨rfl, hx3⟩; have hxx := (plus_ext w1 x).trans hx3))
    | (refine wpl_storeSet rfl (.tmp 4) (.tmp 43) rfl (w.heap.size + 1) 24 (fun b => (noB) b || rangeB 97 122 b) (noB) rfl rfl (hs.ext hxx) ?_; have hsF := (hs.ext hxx).setRow (cs' := setC (fun b => (noB) b || rangeB 97 122 b)); have hrF := (hr.ext hxx).rowFar (g := w.heap.size + 1) (cs' := setC (fun b => (noB) b || rangeB 97 122 b)) (by omega); have hxF := (hx.trans hxx).setRow (g := w.heap.size + 1) (by omega) (setC (fun b => (noB) b || rangeB 97 122 b)))
    | (refine wpl_loadSet rfl (.tmp 4) rfl (w.heap.size + 1) _ (fun b => (noB) b || rangeB 97 122 b) rfl hsF ?_)
    | (refine wpl_storeSet rfl (.tmp 2) (.tmp 79) rfl w.heap.size _ (fun b => (noB) b || rangeB 97 122 b) noB rfl rfl hrF ?_))
  have e := setV_congr (p := fun b => (noB) b || rangeB 97 122 b) (q := lowerB) (fun b hb => by exact (by decide +kernel : ∀ x : Fin 256, (fun b => (noB) b || rangeB 97 122 b) x.val = lowerB x.val) ⟨b, hb⟩)
  rw [← e]
  exact ret_set2 rfl rfl rfl hrF.setRow ⟨rfl, hxF.setRow (by omega) _⟩

set_option maxRecDepth 100000 in
set_option maxHeartbeats 8000000 in
theorem named_upper (w : World) :
    Calls Tryd.prog 23 #[.string ⟨#[117, 112, 112, 101, 114]⟩] w fun r w' => r = .returned (.tuple #[setV upperB, .nilIface]) ∧ Ext w w' := by
  have HR0 := Lib.hid (fun W => range_a 65 90 65 90 W rfl rfl (by omega) (by omega))
  have HJ := Lib.hid (fun p q W t c => join2 p q W t c)
  go_enter Tryd.func23, Tryd.ntmps23
  go_upto_region 18 with fail
  rw [← setC_none]
  have hr : Blk _ _ _ _ := (Blk.new w 24 (setC noB)).alloc (.cells (setC noB) 24)
  have hs : Blk _ _ _ _ := heap_alloc2_new w (.cells (setC noB) 24) (.cells (setC noB) 24)
  have hx := ((Ext.refl w).alloc (.cells (setC noB) 24)).alloc (.cells (setC noB) 24)
  change Code.wp _ _ _ _ ((w.alloc (.cells (setC noB) 24)).alloc (.cells (setC noB) 24))
  generalize (w.alloc (.cells (setC noB) 24)).alloc (.cells (setC noB) 24) = w1 at *
  have hz0 := hs.lt
  go_wp2_with (first
    | (go_at_call 13; ((with_reducible refine (HR0.out _).mono ?_); rintro e w3 ⟨rfl, hxx⟩))
    | (refine wpl_storeSet rfl (.tmp 4) (.tmp 44) rfl (w.heap.size + 1) 24 (rangeB 65 90) (noB) rfl rfl (hs.ext hxx) ?_; have hsF := (hs.ext hxx).setRow (cs' := setC (rangeB 65 90)); have hrF := (hr.ext hxx).rowFar (g := w.heap.size + 1) (cs' := setC (rangeB 65 90)) (by omega); have hxF := (hx.trans hxx).setRow (g := w.heap.size + 1) (by omega) (setC (rangeB 65 90)))
    | (refine wpl_loadSet rfl (.tmp 4) rfl (w.heap.size + 1) _ (rangeB 65 90) rfl hsF ?_)
    | (refine wpl_storeSet rfl (.tmp 2) (.tmp 79) rfl w.heap.size _ (rangeB 65 90) noB rfl rfl hrF ?_))
  have e := setV_congr (p := rangeB 65 90) (q := upperB) (fun b hb => by exact (by decide +kernel : ∀ x : Fin 256, (rangeB 65 90) x.val = upperB x.val) ⟨b, hb⟩)
  rw [← e]
  exact ret_set2 rfl rfl rfl hrF.setRow ⟨rfl, hxF.setRow (by omega) _⟩


end Go.Proofs.YteahmkhmkalimaaDoor
