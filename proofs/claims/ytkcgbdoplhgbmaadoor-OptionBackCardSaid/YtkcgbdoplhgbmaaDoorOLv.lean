/- trawllaw28.lives as a contract. Condition: where the error values and the library's variables lie. -/
import Derived.Test.YtkcgbdoplhgbmaaDoorOSa
import Derived.Test.YtkcgbdoplhgbmaaDoorOPa
import Derived.Test.YtkcgbdoplhgbmaaDoorFNum
import Derived.Test.YtkcgbdoplhgbmaaDoorFEr
namespace Go.Proofs.YtkcgbdoplhgbmaaDoor
open Go Go.RowKit

theorem wpList_unguard {P : Program} {ops : Array Oper} {rest : List Oper} {o : Oper} {a : Act} {w : World} {Q : Exit → Act → World → Prop} (hw : Region.wanted o (yielded ops a.tmps) = true) (h : wpList P ops Q ({ o with guard := none } :: rest) a w) : wpList P ops Q (o :: rest) a w := by
  unfold wpList at *
  rw [if_pos hw]
  rw [if_pos (by simp [Region.wanted])] at h
  exact h
theorem RdT.of_blk {w : World} {g : Nat} {t : TypeId} {ws : List ByteArray} (h : Blk w g t (ws.map Value.string).toArray) : RdT w (.slice (some ⟨g, 0, none⟩) ws.length ws.length) ws :=
  ⟨_, _, rfl, Nat.le_refl _, fun j hj => ⟨g, 0, rfl, by
    rw [Nat.zero_add, h.cell, List.getElem?_toArray, List.getElem?_map, List.getD_eq_getElem?_getD, List.getElem?_eq_getElem hj]
    rfl⟩⟩
def lv1 : List ByteArray := [⟨#[45, 69, 99]⟩, ⟨#[45, 101, 97, 124, 98]⟩, ⟨#[45, 109]⟩, ⟨#[51]⟩]
def lv2 : List ByteArray := [⟨#[97]⟩, ⟨#[98]⟩]
def lvO : Ops := ⟨1, 0, false, true, false, false, false, 3, [[97, 124, 98]]⟩
theorem lv1_parse : parsedP (lv1.map byB) = .ok lvO := by rfl
theorem lv2_parse : parsedP (lv2.map byB) = .error 1 := by rfl

set_option maxRecDepth 100000 in
set_option maxHeartbeats 4000000 in
theorem lives28_any (w : World) (A : Nat → Addr) (m : Int) (hE : ErrsAt w A) (hm : w.cell? ⟨22, 0, none⟩ = some (.int .i64 m)) (hg : w.cell? ⟨21, 0, none⟩ = some errTV) :
    Calls Tryd.prog 28 #[] w fun e w' => e = .returned (.bool true) ∧ Ext w w' := by
  have HE := Lib.hid hE
  have HM := Lib.hid hm
  have HG := Lib.hid hg
  clear hE hm hg
  go_enter Tryd.func28, Tryd.ntmps28
  have hb1 : Blk (w.alloc (.cells (lv1.map Value.string).toArray 9)) w.heap.size 9 (lv1.map Value.string).toArray := Blk.new w _ _
  have hx1 : Ext w (w.alloc (.cells (lv1.map Value.string).toArray 9)) := (Ext.refl w).alloc _
  have HP1 := Lib.hid (oparse_any _ _ lv1 A m (RdT.of_blk hb1) (by decide) (HE.out.ext hx1) (hx1.cell HM.out))
  rw [lv1_parse] at HP1
  clear hb1
  go_upto_region 2 with (first
    | (go_at_call 30; refine HP1.out.mono ?_; rintro e w2 ⟨_, ev, rfl, hx2, ⟨pv, ps, rfl, how, hps⟩, hf⟩)
    | (refine wpl_allocOp rfl rfl ?_; intro z w3 hz hx3 hz0 hzl)
    | (refine wpl_storeOp rfl _ _ rfl rfl z lvO zeroO pv (.slice none 0 0) rfl rfl (by obtain ⟨A, c, hv, _⟩ := how.shape; exact ⟨A, _, c, hv⟩) hz ?_; intro w4 hz4 hk4))
  rcases hf with ⟨_, rfl⟩ | ⟨h0, _⟩
  case inr => exact absurd rfl h0
  have hps1 : ps = [⟨#[97, 124, 98]⟩] := by
    have hl := congrArg List.length hps
    rw [List.length_map] at hl
    obtain ⟨x, rfl⟩ := List.length_eq_one_iff.1 hl
    have h : [byB x] = [[97, 124, 98]] := hps
    injection h with h _
    rw [byB_inj (a := x) (b := ⟨#[97, 124, 98]⟩) h]
  have hx4 : Ext w w4 := ((hx1.trans hx2).trans hx3).keeps hk4 (fun _ h1 h2 => by have := (hx1.trans hx2).size; omega)
  have hx24 : Ext w2 w4 := hx3.keeps hk4 (fun _ h1 h2 => by omega)
  have HR1 := Lib.hid (RdT.of_own (how.ext hx24))
  have HX4 := Lib.hid hx4
  have HZ4 := Lib.hid hz4
  have HPS := Lib.hid hps1
  clear HP1 hx1 hx2 how hps hz hx3 hk4 hps1 hx4 hx24 hz4
  have hb1 : Blk (w4.alloc (.cells (lv2.map Value.string).toArray 9)) w4.heap.size 9 (lv2.map Value.string).toArray := Blk.new w4 _ _
  have hx1 : Ext w4 (w4.alloc (.cells (lv2.map Value.string).toArray 9)) := (Ext.refl w4).alloc _
  have HP1 := Lib.hid (oparse_any _ _ lv2 A m (RdT.of_blk hb1) (by decide) (HE.out.ext (HX4.out.trans hx1)) ((HX4.out.trans hx1).cell HM.out))
  rw [lv2_parse] at HP1
  clear hb1
  go_upto_region 3 with (first
    | (go_at_call 30; refine HP1.out.mono ?_; rintro e w5 ⟨_, ev, rfl, hx5, ⟨pv5, ps5, rfl, how5, hps5⟩, hf⟩)
    | (refine wpl_allocOp rfl rfl ?_; intro z6 w6 hz6 hx6 hz0 hzl)
    | (refine wpl_storeOp rfl _ _ rfl rfl z6 zeroO zeroO pv5 (.slice none 0 0) rfl rfl (by obtain ⟨A, c, hv, _⟩ := how5.shape; exact ⟨A, _, c, hv⟩) hz6 ?_; intro w7 hz7 hk7))
  have hx57 : Ext w5 w7 := hx6.keeps hk7 (fun _ h1 h2 => by omega)
  have hx7 : Ext w4 w7 := (hx1.trans hx5).trans hx57
  have HF := Lib.hid (hf.ext hx57)
  have HX7 := Lib.hid hx7
  have HZ7 := Lib.hid (HZ4.out.ext hx7)
  have HR7 := Lib.hid (HR1.out.ext hx7)
  clear HP1 hx1 hx5 how5 hps5 hz6 hx6 hk7 hx57 hx7 hz7 hf HZ4 HR1
  have hb : Blk (w7.alloc (.cells ([(⟨#[97, 124, 98]⟩ : ByteArray)].map Value.string).toArray 9)) w7.heap.size 9 ([(⟨#[97, 124, 98]⟩ : ByteArray)].map Value.string).toArray := Blk.new w7 _ _
  have hx8 : Ext w7 (w7.alloc (.cells ([(⟨#[97, 124, 98]⟩ : ByteArray)].map Value.string).toArray 9)) := (Ext.refl w7).alloc _
  have HS := Lib.hid (same28_any lvO lvO ps [⟨#[97, 124, 98]⟩] pv _ _ (HR7.out.ext hx8) (RdT.of_blk hb) (by rw [HPS.out]; decide))
  have hone : (sameH lvO lvO && decide (ps = [⟨#[97, 124, 98]⟩])) = true := by rw [HPS.out]; decide
  rw [hone] at HS
  have HX8 := Lib.hid hx8
  have HEN := Lib.hid (fun W (hW : Ext w7 W) => num_ferr A 19 _ ev W (HF.out.ext hW) (HE.out.ext ((HX4.out.trans HX7.out).trans hW)))
  have HIN := Lib.hid (fun W (hW : Ext w7 W) => numIndex_any A 19 _ ev W (HF.out.ext hW) (((HX4.out.trans HX7.out).trans hW).cell HG.out))
  have e19 : codeP 19 = 19 := rfl
  have eix : (plF true 19 (pL (.error 1))).getD (-1) = 1 := rfl
  rw [e19] at HEN
  rw [eix] at HIN
  clear hb hx8 hone HF e19 eix
  go_wp2_with (first
    | (refine wpList_unguard rfl ?_; refine wpl_loadOp rfl _ rfl z 0 lvO pv rfl (Blk.opAt HZ7.out) ?_)
    | (go_at_call 33; refine HS.out.mono ?_; rintro e w8 ⟨rfl, hx9⟩)
    | (go_at_call 18; refine (HEN.out _ (HX8.out.trans hx9)).mono ?_; rintro e w9 ⟨rfl, hx10⟩)
    | (go_at_call 32; refine (HIN.out _ ((HX8.out.trans hx9).trans hx10)).mono ?_; rintro e w10 ⟨rfl, hx11⟩))
  go_ret
  exact ⟨rfl, (HX4.out.trans HX7.out).trans (((HX8.out.trans hx9).trans hx10).trans hx11)⟩

end Go.Proofs.YtkcgbdoplhgbmaaDoor
