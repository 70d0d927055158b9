/- The law ClassFolds as a walk. No condition but where the error values lie. -/
import Derived.Test.YteahmkhmkalimaaDoorClassA
import Derived.Test.YteahmkhmkalimaaDoorFoldP
namespace Go.Proofs.YteahmkhmkalimaaDoor
open Go.RowKit

theorem fold_a (p : Nat → Bool) (w : World) :
    Calls Tryd.prog 31 #[.agg #[.int .u64 (wd p 0 : Int), .int .u64 (wd p 1 : Int), .int .u64 (wd p 2 : Int), .int .u64 (wd p 3 : Int)]] w fun r w' => r = .returned (.agg #[.int .u64 (wd (foldB p) 0 : Int), .int .u64 (wd (foldB p) 1 : Int), .int .u64 (wd (foldB p) 2 : Int), .int .u64 (wd (foldB p) 3 : Int)]) ∧ Ext w w' := fold_any p w
theorem rFold_a (p : Nat → Bool) (w : World) :
    Calls Tryd.prog 32 #[.agg #[.int .u64 (wd p 0 : Int), .int .u64 (wd p 1 : Int), .int .u64 (wd p 2 : Int), .int .u64 (wd p 3 : Int)]] w fun r w' => r = .returned (.agg #[.int .u64 (wd (foldB p) 0 : Int), .int .u64 (wd (foldB p) 1 : Int), .int .u64 (wd (foldB p) 2 : Int), .int .u64 (wd (foldB p) 3 : Int)]) ∧ Ext w w' := rFold_any p w

set_option maxRecDepth 100000 in
set_option maxHeartbeats 8000000 in
theorem folds_core (p : Nat → Bool) (b : Nat) (A : Nat → Addr) (w : World) (hb : b < 256) (hA : ErrsAt w A) :
    Calls Tryd.prog 8 #[.agg #[.int .u64 (wd p 0 : Int), .int .u64 (wd p 1 : Int), .int .u64 (wd p 2 : Int), .int .u64 (wd p 3 : Int)], .int .u8 (b : Int)] w fun r w' => r = .returned (.bool true) ∧ Ext w w' := by
  have HL := Lib.hid (fun W h => classLives_any A W h)
  have HA := Lib.hid hA
  have HF := Lib.hid (fun W => fold_a p W)
  have HG := Lib.hid (fun W => rFold_a p W)
  have HO := Lib.hid (fun W => other_any b W hb)
  have HP := Lib.hid (fun W => rOther_any b W hb)
  have HW := Lib.hid (fun W => word_any b W hb)
  have HV := Lib.hid (fun W => rWord_any b W hb)
  have heq := eql_same
  clear hA
  have B0 : Blk (w.alloc (.cells #[.int .u64 (wd p 0 : Int), .int .u64 (wd p 1 : Int), .int .u64 (wd p 2 : Int), .int .u64 (wd p 3 : Int)] 24)) w.heap.size 24 (setC p) := Blk.new w _ _
  go_enter Tryd.func8, Tryd.ntmps8
  go_upto_region 3 with (go_at_call 22; refine (HL.out _ (HA.out.ext ((Ext.refl w).alloc _))).mono ?_; rintro e w1 ⟨rfl, hx1⟩)
  have hB := B0.ext hx1
  have hx := ((Ext.refl w).alloc _).trans hx1
  obtain ⟨a0, a1, a2, a3, _, _, _, _⟩ := setC_cells hB
  have p0 := cell_plus a0
  have p1 := cell_plus a1
  have p2 := cell_plus a2
  have p3 := cell_plus a3
  clear a0 a1 a2 a3 hx1 HA HL B0 hB
  refine wp_region_plus (by kernel_rfl) (by kernel_rfl) ?_
  repeat (go_big_quiet_step (first
    | (go_at_call 31; exact Calls.plus_of (HF.out _))
    | (go_at_call 32; exact Calls.plus_of (HG.out _))
    | (go_at_call 29; exact Calls.plus_of_same (HO.out _))
    | (go_at_call 33; exact Calls.plus_of_same (HP.out _))
    | (go_at_call 30; exact Calls.plus_of_same (HW.out _))
    | (go_at_call 34; exact Calls.plus_of_same (HV.out _))))
  refine wpQuiet_nil ?_
  intro y
  go_wp2
  go_ret
  exact ⟨rfl, hx.trans (plus_ext _ y)⟩

theorem classFolds_walk (p : Nat → Bool) (b : Int) (wb : (Lit.int .u8 b).wf = true) (w : World) (hE : ∃ A, ErrsAt w A) :
    Calls Tryd.prog 8 #[setV p, .int .u8 b] w fun r w' => r = .returned (.bool true) ∧ Ext w w' := by
  obtain ⟨A, hA⟩ := hE
  obtain ⟨h0, h1⟩ : 0 ≤ b ∧ b ≤ 255 := by simpa [Lit.wf, IntKind.min, IntKind.max, IntKind.signed, IntKind.bits] using wb
  obtain ⟨n, rfl⟩ := Int.eq_ofNat_of_zero_le h0
  exact folds_core p n A w (by omega) hA

end Go.Proofs.YteahmkhmkalimaaDoor
