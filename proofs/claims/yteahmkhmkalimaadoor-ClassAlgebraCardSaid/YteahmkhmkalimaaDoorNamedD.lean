/- The program's Named: 'punct', and a text that is no name. No condition but where the error values lie. -/
import Derived.Test.YteahmkhmkalimaaDoorNamedA
namespace Go.Proofs.YteahmkhmkalimaaDoor
open Go.RowKit

theorem named_alnum_a (w : World) :
    Calls Tryd.prog 23 #[.string ⟨#[97, 108, 110, 117, 109]⟩] w fun r w' => r = .returned (.tuple #[.agg #[.int .u64 (wd alnumB 0 : Int), .int .u64 (wd alnumB 1 : Int), .int .u64 (wd alnumB 2 : Int), .int .u64 (wd alnumB 3 : Int)], .nilIface]) ∧ Ext w w' := named_alnum w
set_option maxRecDepth 100000 in
set_option maxHeartbeats 8000000 in
theorem named_punct (w : World) :
    Calls Tryd.prog 23 #[.string ⟨#[112, 117, 110, 99, 116]⟩] w fun r w' => r = .returned (.tuple #[setV punctB, .nilIface]) ∧ Ext w w' := by
  have HR1 := Lib.hid (fun W => range_a 33 126 33 126 W rfl rfl (by omega) (by omega))
  have HJ := Lib.hid (fun p q W t c => join2 p q W t c)
  have HN := Lib.hid (fun W => named_alnum_a W)
  have HL := Lib.hid (fun p q W => less_a p q W)
  go_enter Tryd.func23, Tryd.ntmps23
  go_upto_region 26 with fail
  rw [← setC_none]
  have hr : Blk _ _ _ _ := (Blk.new w 24 (setC noB)).alloc (.cells (setC noB) 24)
  have hs : Blk _ _ _ _ := heap_alloc2_new w (.cells (setC noB) 24) (.cells (setC noB) 24)
  have hx := ((Ext.refl w).alloc (.cells (setC noB) 24)).alloc (.cells (setC noB) 24)
  change Code.wp _ _ _ _ ((w.alloc (.cells (setC noB) 24)).alloc (.cells (setC noB) 24))
  generalize (w.alloc (.cells (setC noB) 24)).alloc (.cells (setC noB) 24) = w1 at *
  have hz0 := hs.lt
  go_upto_region 27 with (first
    | (go_at_call 23; ((with_reducible refine (HN.out _).mono ?_); rintro e w3 ⟨rfl, hxx⟩)))
  have h5 := Blk.new w3 24 (setC alnumB)
  have hs2 := (hs.ext hxx).alloc (.cells (setC alnumB) 24)
  have hr2 := (hr.ext hxx).alloc (.cells (setC alnumB) 24)
  have hx2 := (hx.trans hxx).alloc (.cells (setC alnumB) 24)
  change Code.wp _ _ _ _ (w3.alloc (.cells (setC alnumB) 24))
  obtain ⟨w1, h5, hs, hr, hx, hw⟩ : ∃ W, Blk W w3.heap.size 24 (setC alnumB) ∧ Blk W (w.heap.size + 1) 24 (setC noB) ∧ Blk W w.heap.size 24 (setC noB) ∧ Ext w W ∧ Hid (W = w3.alloc (.cells (setC alnumB) 24)) := ⟨_, h5, hs2, hr2, hx2, Lib.hid rfl⟩
  rw [← hw.out]
  try dsimp only [Act.put]
  clear hw hs2 hr2 hx2 hxx
  have hz1 := hs.lt
  obtain ⟨a0, a1, a2, a3, _, _, _, _⟩ := setC_cells h5
  have p0 := cell_plus a0
  have p1 := cell_plus a1
  have p2 := cell_plus a2
  have p3 := cell_plus a3
  refine wp_region_plus_tail 2 (by kernel_rfl) (by kernel_rfl) ?_
  simp only [List.take_succ_cons, List.take_zero, List.drop_succ_cons, List.drop_zero]
  repeat (go_big_quiet_step ((go_at_call 13; exact Calls.plus_of (HR1.out _))))
  refine wpQuiet_nil ?_
  intro x
  clear a0 a1 a2 a3 p0 p1 p2 p3
  go_wp2_with (first
    | (go_at_call 44; ((with_reducible refine (HL.out (rangeB 33 126) alnumB _).mono ?_); rintro e w3 ⟨rfl, hx3⟩; have hxx := (plus_ext w1 x).trans hx3))
    | (refine wpl_storeSet rfl (.tmp 4) (.tmp 76) rfl (w.heap.size + 1) 24 (fun b => rangeB 33 126 b && !alnumB b) (noB) rfl rfl (hs.ext hxx) ?_; have hsF := (hs.ext hxx).setRow (cs' := setC (fun b => rangeB 33 126 b && !alnumB b)); have hrF := (hr.ext hxx).rowFar (g := w.heap.size + 1) (cs' := setC (fun b => rangeB 33 126 b && !alnumB b)) (by omega); have hxF := (hx.trans hxx).setRow (g := w.heap.size + 1) (by omega) (setC (fun b => rangeB 33 126 b && !alnumB b)))
    | (refine wpl_loadSet rfl (.tmp 4) rfl (w.heap.size + 1) _ (fun b => rangeB 33 126 b && !alnumB b) rfl hsF ?_)
    | (refine wpl_storeSet rfl (.tmp 2) (.tmp 79) rfl w.heap.size _ (fun b => rangeB 33 126 b && !alnumB b) noB rfl rfl hrF ?_))
  have e := setV_congr (p := fun b => rangeB 33 126 b && !alnumB b) (q := punctB) (fun b hb => by exact (by decide +kernel : ∀ x : Fin 256, (fun b => rangeB 33 126 b && !alnumB b) x.val = punctB x.val) ⟨b, hb⟩)
  rw [← e]
  exact ret_set2 rfl rfl rfl hrF.setRow ⟨rfl, hxF.setRow (by omega) _⟩

end Go.Proofs.YteahmkhmkalimaaDoor
