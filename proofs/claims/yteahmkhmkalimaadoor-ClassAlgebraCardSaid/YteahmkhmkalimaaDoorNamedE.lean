/- The program's Named, name by name (graph print cntrl). No condition. -/
import Derived.Test.YteahmkhmkalimaaDoorNamed
namespace Go.Proofs.YteahmkhmkalimaaDoor
open Go.RowKit

set_option maxRecDepth 100000 in
set_option maxHeartbeats 8000000 in
theorem named_graph (w : World) :
    Calls Tryd.prog 23 #[.string ⟨#[103, 114, 97, 112, 104]⟩] w fun r w' => r = .returned (.tuple #[setV graphB, .nilIface]) ∧ Ext w w' := by
  have HR0 := Lib.hid (fun W => range_a 33 126 33 126 W rfl rfl (by omega) (by omega))
  have HJ := Lib.hid (fun p q W t c => join2 p q W t c)
  go_enter Tryd.func23, Tryd.ntmps23
  go_upto_region 25 with fail
  rw [← setC_none]
  have hr : Blk _ _ _ _ := (Blk.new w 24 (setC noB)).alloc (.cells (setC noB) 24)
  have hs : Blk _ _ _ _ := heap_alloc2_new w (.cells (setC noB) 24) (.cells (setC noB) 24)
  have hx := ((Ext.refl w).alloc (.cells (setC noB) 24)).alloc (.cells (setC noB) 24)
  change Code.wp _ _ _ _ ((w.alloc (.cells (setC noB) 24)).alloc (.cells (setC noB) 24))
  generalize (w.alloc (.cells (setC noB) 24)).alloc (.cells (setC noB) 24) = w1 at *
  have hz0 := hs.lt
  obtain ⟨a0, a1, a2, a3, _, _, _, _⟩ := setC_cells hs
  have p0 := cell_plus a0
  have p1 := cell_plus a1
  have p2 := cell_plus a2
  have p3 := cell_plus a3
  refine wp_region_plus_tail 2 (by kernel_rfl) (by kernel_rfl) ?_
  simp only [List.take_succ_cons, List.take_zero, List.drop_succ_cons, List.drop_zero]
  repeat (go_big_quiet_step ((go_at_call 13; exact Calls.plus_of (HR0.out _))))
  refine wpQuiet_nil ?_
  intro x
  clear a0 a1 a2 a3 p0 p1 p2 p3
  go_wp2_with (first
    | (go_at_call 36; ((with_reducible refine (HJ.out (noB) (rangeB 33 126) _ _ _).mono ?_); rintro e w3 ⟨rfl, hx3⟩; have hxx := (plus_ext w1 x).trans hx3))
    | (refine wpl_storeSet rfl (.tmp 4) (.tmp 69) rfl (w.heap.size + 1) 24 (fun b => (noB) b || rangeB 33 126 b) (noB) rfl rfl (hs.ext hxx) ?_; have hsF := (hs.ext hxx).setRow (cs' := setC (fun b => (noB) b || rangeB 33 126 b)); have hrF := (hr.ext hxx).rowFar (g := w.heap.size + 1) (cs' := setC (fun b => (noB) b || rangeB 33 126 b)) (by omega); have hxF := (hx.trans hxx).setRow (g := w.heap.size + 1) (by omega) (setC (fun b => (noB) b || rangeB 33 126 b)))
    | (refine wpl_loadSet rfl (.tmp 4) rfl (w.heap.size + 1) _ (fun b => (noB) b || rangeB 33 126 b) rfl hsF ?_)
    | (refine wpl_storeSet rfl (.tmp 2) (.tmp 79) rfl w.heap.size _ (fun b => (noB) b || rangeB 33 126 b) noB rfl rfl hrF ?_))
  have e := setV_congr (p := fun b => (noB) b || rangeB 33 126 b) (q := graphB) (fun b hb => by exact (by decide +kernel : ∀ x : Fin 256, (fun b => (noB) b || rangeB 33 126 b) x.val = graphB x.val) ⟨b, hb⟩)
  rw [← e]
  exact ret_set2 rfl rfl rfl hrF.setRow ⟨rfl, hxF.setRow (by omega) _⟩

set_option maxRecDepth 100000 in
set_option maxHeartbeats 8000000 in
theorem named_print (w : World) :
    Calls Tryd.prog 23 #[.string ⟨#[112, 114, 105, 110, 116]⟩] w fun r w' => r = .returned (.tuple #[setV printB, .nilIface]) ∧ Ext w w' := by
  have HR1 := Lib.hid (fun W => range_a 33 126 33 126 W rfl rfl (by omega) (by omega))
  have HJ := Lib.hid (fun p q W t c => join2 p q W t c)
  have HO := Lib.hid (fun W t c => of1_a 32 32 W t c rfl (by omega))
  go_enter Tryd.func23, Tryd.ntmps23
  go_upto_region 24 with fail
  rw [← setC_none]
  have hr : Blk _ _ _ _ := (Blk.new w 24 (setC noB)).alloc (.cells (setC noB) 24)
  have hs : Blk _ _ _ _ := heap_alloc2_new w (.cells (setC noB) 24) (.cells (setC noB) 24)
  have hx := ((Ext.refl w).alloc (.cells (setC noB) 24)).alloc (.cells (setC noB) 24)
  change Code.wp _ _ _ _ ((w.alloc (.cells (setC noB) 24)).alloc (.cells (setC noB) 24))
  generalize (w.alloc (.cells (setC noB) 24)).alloc (.cells (setC noB) 24) = w1 at *
  have hz0 := hs.lt
  go_upto_region 25 with (first
    | (go_at_call 11; ((with_reducible refine (HO.out _ _ _).mono ?_); rintro e w3 ⟨rfl, hxx⟩))
    | (refine wpl_storeSet rfl (.tmp 4) (.tmp 65) rfl (w.heap.size + 1) 24 (fun x => x == 32) (noB) rfl rfl (hs.ext hxx) ?_; have hsF := (hs.ext hxx).setRow (cs' := setC (fun x => x == 32)); have hrF := (hr.ext hxx).rowFar (g := w.heap.size + 1) (cs' := setC (fun x => x == 32)) (by omega); have hxF := (hx.trans hxx).setRow (g := w.heap.size + 1) (by omega) (setC (fun x => x == 32))))
  obtain ⟨P0, HP0⟩ : ∃ P : Nat → Bool, Hid (P = fun x => x == 32) := ⟨_, Lib.hid rfl⟩
  obtain ⟨w5, hw⟩ : ∃ W, Hid (W = w3.setRow (w.heap.size + 1) (setC (fun x => x == 32))) := ⟨_, Lib.hid rfl⟩
  rw [← hw.out] at hsF hrF hxF ⊢
  rw [← HP0.out] at hsF
  try dsimp only [Act.put]
  clear hw hs hr hx hxx
  have hs := hsF
  have hr := hrF
  have hx := hxF
  clear hsF hrF hxF
  obtain ⟨w1, rfl⟩ : ∃ w1 : World, w1 = w5 := ⟨_, rfl⟩
  have hz1 := hs.lt
  obtain ⟨a0, a1, a2, a3, _, _, _, _⟩ := setC_cells hs
  have p0 := cell_plus a0
  have p1 := cell_plus a1
  have p2 := cell_plus a2
  have p3 := cell_plus a3
  refine wp_region_plus_tail 2 (by kernel_rfl) (by kernel_rfl) ?_
  simp only [List.take_succ_cons, List.take_zero, List.drop_succ_cons, List.drop_zero]
  repeat (go_big_quiet_step ((go_at_call 13; exact Calls.plus_of (HR1.out _))))
  refine wpQuiet_nil ?_
  intro x
  clear a0 a1 a2 a3 p0 p1 p2 p3
  go_wp2_with (first
    | (go_at_call 36; ((with_reducible refine (HJ.out (P0) (rangeB 33 126) _ _ _).mono ?_); rintro e w3 ⟨rfl, hx3⟩; have hxx := (plus_ext w1 x).trans hx3))
    | (refine wpl_storeSet rfl (.tmp 4) (.tmp 69) rfl (w.heap.size + 1) 24 (fun b => (P0) b || rangeB 33 126 b) (P0) rfl rfl (hs.ext hxx) ?_; have hsF := (hs.ext hxx).setRow (cs' := setC (fun b => (P0) b || rangeB 33 126 b)); have hrF := (hr.ext hxx).rowFar (g := w.heap.size + 1) (cs' := setC (fun b => (P0) b || rangeB 33 126 b)) (by omega); have hxF := (hx.trans hxx).setRow (g := w.heap.size + 1) (by omega) (setC (fun b => (P0) b || rangeB 33 126 b)))
    | (refine wpl_loadSet rfl (.tmp 4) rfl (w.heap.size + 1) _ (fun b => (P0) b || rangeB 33 126 b) rfl hsF ?_)
    | (refine wpl_storeSet rfl (.tmp 2) (.tmp 79) rfl w.heap.size _ (fun b => (P0) b || rangeB 33 126 b) noB rfl rfl hrF ?_))
  have e := setV_congr (p := fun b => (P0) b || rangeB 33 126 b) (q := printB) (fun b hb => by rw [HP0.out]; exact (by decide +kernel : ∀ x : Fin 256, (fun b => ((fun x => x == 32)) b || rangeB 33 126 b) x.val = printB x.val) ⟨b, hb⟩)
  rw [← e]
  exact ret_set2 rfl rfl rfl hrF.setRow ⟨rfl, hxF.setRow (by omega) _⟩

set_option maxRecDepth 100000 in
set_option maxHeartbeats 8000000 in
theorem named_cntrl (w : World) :
    Calls Tryd.prog 23 #[.string ⟨#[99, 110, 116, 114, 108]⟩] w fun r w' => r = .returned (.tuple #[setV cntrlB, .nilIface]) ∧ Ext w w' := by
  have HR0 := Lib.hid (fun W => range_a 0 31 0 31 W rfl rfl (by omega) (by omega))
  have HJ := Lib.hid (fun p q W t c => join2 p q W t c)
  have HO := Lib.hid (fun W t c => of1_a 127 127 W t c rfl (by omega))
  go_enter Tryd.func23, Tryd.ntmps23
  go_upto_region 23 with fail
  rw [← setC_none]
  have hr : Blk _ _ _ _ := (Blk.new w 24 (setC noB)).alloc (.cells (setC noB) 24)
  have hs : Blk _ _ _ _ := heap_alloc2_new w (.cells (setC noB) 24) (.cells (setC noB) 24)
  have hx := ((Ext.refl w).alloc (.cells (setC noB) 24)).alloc (.cells (setC noB) 24)
  change Code.wp _ _ _ _ ((w.alloc (.cells (setC noB) 24)).alloc (.cells (setC noB) 24))
  generalize (w.alloc (.cells (setC noB) 24)).alloc (.cells (setC noB) 24) = w1 at *
  have hz0 := hs.lt
  go_wp2_with (first
    | (go_at_call 13; ((with_reducible refine (HR0.out _).mono ?_); rintro e w2 ⟨rfl, hx2⟩))
    | (go_at_call 11; ((with_reducible refine (HO.out _ _ _).mono ?_); rintro e w4 ⟨rfl, hx4⟩))
    | (go_at_call 36; ((with_reducible refine (HJ.out (rangeB 0 31) (fun x => x == 127) _ _ _).mono ?_); rintro e w3 ⟨rfl, hx3⟩; have hxx := (hx2.trans hx4).trans hx3))
    | (refine wpl_storeSet rfl (.tmp 4) (.tmp 63) rfl (w.heap.size + 1) 24 (fun b => rangeB 0 31 b || (fun x => x == 127) b) (noB) rfl rfl (hs.ext hxx) ?_; have hsF := (hs.ext hxx).setRow (cs' := setC (fun b => rangeB 0 31 b || (fun x => x == 127) b)); have hrF := (hr.ext hxx).rowFar (g := w.heap.size + 1) (cs' := setC (fun b => rangeB 0 31 b || (fun x => x == 127) b)) (by omega); have hxF := (hx.trans hxx).setRow (g := w.heap.size + 1) (by omega) (setC (fun b => rangeB 0 31 b || (fun x => x == 127) b)))
    | (refine wpl_loadSet rfl (.tmp 4) rfl (w.heap.size + 1) _ (fun b => rangeB 0 31 b || (fun x => x == 127) b) rfl hsF ?_)
    | (refine wpl_storeSet rfl (.tmp 2) (.tmp 79) rfl w.heap.size _ (fun b => rangeB 0 31 b || (fun x => x == 127) b) noB rfl rfl hrF ?_))
  have e := setV_congr (p := fun b => rangeB 0 31 b || (fun x => x == 127) b) (q := cntrlB) (fun b hb => by exact (by decide +kernel : ∀ x : Fin 256, (fun b => rangeB 0 31 b || (fun x => x == 127) b) x.val = cntrlB x.val) ⟨b, hb⟩)
  rw [← e]
  exact ret_set2 rfl rfl rfl hrF.setRow ⟨rfl, hxF.setRow (by omega) _⟩


end Go.Proofs.YteahmkhmkalimaaDoor
