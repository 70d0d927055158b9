/- trawlref28.simple as a contract. Condition: flags and mode are small. Printed by gensimple.py. -/
import Derived.Test.YtkcgbdoplhgbmaaDoorOVal
import Derived.Test.YtkcgbdoplhgbmaaDoorOWd
namespace Go.Proofs.YtkcgbdoplhgbmaaDoor
open Go Go.RowKit

section
variable {ops : Array Oper} {rest : List Oper} {o : Oper} {a : Act} {w : World} {Q : Exit → Act → World → Prop}
theorem wpl_boxOp (hgd : o.guard = none) (x : Operand) (ho : o.op = .box 46 x) (p : Ops) (pv : Value) (hx : a.eval x = opV p pv)
    (hK : ∀ g w1, Blk w1 g 46 (opA p pv) → Ext w w1 → w.heap.size ≤ g → g < w1.heap.size → wpList Tryd.prog ops Q rest (a.put o.dst (.pointer (some ⟨g, 0, none⟩))) w1) : wpList Tryd.prog ops Q (o :: rest) a w :=
  wpList_plain hgd fun _ hKK => by
    have hr : (execOp a.eval o).run Tryd.prog w = .ok (.value (.pointer (some ⟨w.heap.size, 0, none⟩))) (w.alloc (.cells (opA p pv) 46)) := by
      unfold execOp
      rw [ho]
      simp [Instr.box, hx, newVar, newRow, Value.cells, opV]
    unfold Oper.wp
    rw [hr]
    exact hKK _ _ (hK _ _ (Blk.new w _ _) ((Ext.refl w).alloc _) (Nat.le_refl _) (by simp))
end
theorem Blk.opAt {w : World} {g : Nat} {t : TypeId} {o : Ops} {pv : Value} (hb : Blk w g t (opA o pv)) : OpAt w g 0 o pv := fun i _ => by
  rw [Nat.zero_add, hb.cell, opA_get]
theorem tdiv_mul (x : Int) (h : 0 ≤ x ∧ x ≤ 3) : wrap64 (x.tdiv 2 * 2) = x / 2 * 2 := by
  have e : x.tdiv 2 = x / 2 := Int.tdiv_eq_ediv_of_nonneg h.1
  rw [e]
  unfold wrap64
  omega
theorem tdiv_mul2 (x : Int) (h : 0 ≤ x ∧ x ≤ 3) : wrap64 (wrap64 (x.tdiv 2) * 2) = x / 2 * 2 := by
  have e : x.tdiv 2 = x / 2 := Int.tdiv_eq_ediv_of_nonneg h.1
  rw [e]
  unfold wrap64
  omega

set_option maxRecDepth 100000 in
set_option maxHeartbeats 8000000 in
theorem rsimple_any (o : Ops) (pv : Value) (hs : IsS pv) (c : UInt8) (W : World) (hv : (0 ≤ o.fl ∧ o.fl ≤ 3) ∧ (0 ≤ o.md ∧ o.md ≤ 3)) :
    Calls Tryd.prog 69 #[opV o pv, .int .u8 c.toNat] W fun e w' => Ext W w' ∧ e = .returned (.tuple #[opV ((simpP c o).getD o) pv, .bool (simpP c o).isSome]) := by
  generalize hR : simpP c o = R
  have HR := Lib.hid hR
  have HS := Lib.hid hs
  clear hR
  go_enter Tryd.func69, Tryd.ntmps69
  go_upto_region 1 with (first
    | (refine wpl_boxOp rfl _ rfl o pv rfl ?_; intro g w1 hg hx1 hg0 hgl)
    | (refine wpl_allocOp rfl rfl ?_; intro z w2 hz hx2 hz0 hzl))
  have hx12 := hx1.trans hx2
  have hg2 := hg.ext hx2
  have hzW : W.heap.size ≤ z := Nat.le_trans hx1.size hz0
  have hgz : g ≠ z := by omega
  have HX := Lib.hid hx12
  have HZ := Lib.hid hz
  have HG := Lib.hid hg2
  clear hx1 hx2 hg hx12 hz hs
  by_cases a69 : c.toNat = 69
  · have eb : c = 69 := UInt8.toNat_inj.1 a69
    have HQ : Hid (R = some { o with fl := o.fl / 2 * 2 + 1 }) := Lib.hid (by rw [← HR.out, eb]; rfl)
    have c0 : w2.cell? ⟨g, 0, none⟩ = some (.int .i64 o.fl) := hg2.cell 0
    have f0 := hg2.frozen 0
    have hval := or_one hv.1
    have hset := hg2.set 0 (.int .i64 (o.fl / 2 * 2 + 1))
    have hk := (Keeps.refl (· = g) w2).setCell (p := ⟨g, 0, none⟩) (.inr rfl) (.int .i64 (o.fl / 2 * 2 + 1))
    have HSE := Lib.hid (And.intro hset hk)
    clear hg2 hv eb HR hset hk
    go_wp2_with (first
      | (refine wpl_loadOp rfl _ rfl g 0 { o with fl := o.fl / 2 * 2 + 1 } pv rfl (Blk.opAt HSE.out.1) ?_)
      | (refine wpl_storeOp rfl _ _ rfl rfl z { o with fl := o.fl / 2 * 2 + 1 } _ pv _ rfl rfl HS.out (HZ.out.keeps HSE.out.2 (fun e => hgz e.symm)) ?_; intro w9 hz9 hk9))
    rw [HQ.out]
    refine ret_op2 rfl rfl rfl rfl hz9 ⟨(HX.out.keeps HSE.out.2 (fun _ h1 h2 => by omega)).keeps hk9 (fun _ h1 h2 => by omega), rfl⟩
  have n69 : ((c.toNat : Int) == 69) = false := by rw [beq_eq_false_iff_ne]; omega
  by_cases a71 : c.toNat = 71
  · have eb : c = 71 := UInt8.toNat_inj.1 a71
    have HQ : Hid (R = some { o with fl := o.fl / 2 * 2 }) := Lib.hid (by rw [← HR.out, eb]; rfl)
    have c0 : w2.cell? ⟨g, 0, none⟩ = some (.int .i64 o.fl) := hg2.cell 0
    have f0 := hg2.frozen 0
    have hval := tdiv_mul o.fl hv.1
    have hval2 := tdiv_mul2 o.fl hv.1
    have hset := hg2.set 0 (.int .i64 (o.fl / 2 * 2))
    have hk := (Keeps.refl (· = g) w2).setCell (p := ⟨g, 0, none⟩) (.inr rfl) (.int .i64 (o.fl / 2 * 2))
    have HSE := Lib.hid (And.intro hset hk)
    clear hg2 hv eb HR hset hk
    go_wp2_with (first
      | (refine wpl_loadOp rfl _ rfl g 0 { o with fl := o.fl / 2 * 2 } pv rfl (Blk.opAt HSE.out.1) ?_)
      | (refine wpl_storeOp rfl _ _ rfl rfl z { o with fl := o.fl / 2 * 2 } _ pv _ rfl rfl HS.out (HZ.out.keeps HSE.out.2 (fun e => hgz e.symm)) ?_; intro w9 hz9 hk9))
    rw [HQ.out]
    refine ret_op2 rfl rfl rfl rfl hz9 ⟨(HX.out.keeps HSE.out.2 (fun _ h1 h2 => by omega)).keeps hk9 (fun _ h1 h2 => by omega), rfl⟩
  have n71 : ((c.toNat : Int) == 71) = false := by rw [beq_eq_false_iff_ne]; omega
  by_cases a105 : c.toNat = 105
  · have eb : c = 105 := UInt8.toNat_inj.1 a105
    have HQ : Hid (R = some { o with fl := o.fl % 2 + 2 }) := Lib.hid (by rw [← HR.out, eb]; rfl)
    have c0 : w2.cell? ⟨g, 0, none⟩ = some (.int .i64 o.fl) := hg2.cell 0
    have f0 := hg2.frozen 0
    have hval := or_two hv.1
    have hset := hg2.set 0 (.int .i64 (o.fl % 2 + 2))
    have hk := (Keeps.refl (· = g) w2).setCell (p := ⟨g, 0, none⟩) (.inr rfl) (.int .i64 (o.fl % 2 + 2))
    have HSE := Lib.hid (And.intro hset hk)
    clear hg2 hv eb HR hset hk
    go_wp2_with (first
      | (refine wpl_loadOp rfl _ rfl g 0 { o with fl := o.fl % 2 + 2 } pv rfl (Blk.opAt HSE.out.1) ?_)
      | (refine wpl_storeOp rfl _ _ rfl rfl z { o with fl := o.fl % 2 + 2 } _ pv _ rfl rfl HS.out (HZ.out.keeps HSE.out.2 (fun e => hgz e.symm)) ?_; intro w9 hz9 hk9))
    rw [HQ.out]
    refine ret_op2 rfl rfl rfl rfl hz9 ⟨(HX.out.keeps HSE.out.2 (fun _ h1 h2 => by omega)).keeps hk9 (fun _ h1 h2 => by omega), rfl⟩
  have n105 : ((c.toNat : Int) == 105) = false := by rw [beq_eq_false_iff_ne]; omega
  by_cases a120 : c.toNat = 120
  · have eb : c = 120 := UInt8.toNat_inj.1 a120
    have HQ : Hid (R = some { o with md := o.md / 2 * 2 + 1 }) := Lib.hid (by rw [← HR.out, eb]; rfl)
    have c1 : w2.cell? ⟨g, 1, none⟩ = some (.int .i64 o.md) := hg2.cell 1
    have f1 := hg2.frozen 1
    have hval := or_one hv.2
    have hset := hg2.set 1 (.int .i64 (o.md / 2 * 2 + 1))
    have hk := (Keeps.refl (· = g) w2).setCell (p := ⟨g, 1, none⟩) (.inr rfl) (.int .i64 (o.md / 2 * 2 + 1))
    have HSE := Lib.hid (And.intro hset hk)
    clear hg2 hv eb HR hset hk
    go_wp2_with (first
      | (refine wpl_loadOp rfl _ rfl g 0 { o with md := o.md / 2 * 2 + 1 } pv rfl (Blk.opAt HSE.out.1) ?_)
      | (refine wpl_storeOp rfl _ _ rfl rfl z { o with md := o.md / 2 * 2 + 1 } _ pv _ rfl rfl HS.out (HZ.out.keeps HSE.out.2 (fun e => hgz e.symm)) ?_; intro w9 hz9 hk9))
    rw [HQ.out]
    refine ret_op2 rfl rfl rfl rfl hz9 ⟨(HX.out.keeps HSE.out.2 (fun _ h1 h2 => by omega)).keeps hk9 (fun _ h1 h2 => by omega), rfl⟩
  have n120 : ((c.toNat : Int) == 120) = false := by rw [beq_eq_false_iff_ne]; omega
  by_cases a119 : c.toNat = 119
  · have eb : c = 119 := UInt8.toNat_inj.1 a119
    have HQ : Hid (R = some { o with md := o.md % 2 + 2 }) := Lib.hid (by rw [← HR.out, eb]; rfl)
    have c1 : w2.cell? ⟨g, 1, none⟩ = some (.int .i64 o.md) := hg2.cell 1
    have f1 := hg2.frozen 1
    have hval := or_two hv.2
    have hset := hg2.set 1 (.int .i64 (o.md % 2 + 2))
    have hk := (Keeps.refl (· = g) w2).setCell (p := ⟨g, 1, none⟩) (.inr rfl) (.int .i64 (o.md % 2 + 2))
    have HSE := Lib.hid (And.intro hset hk)
    clear hg2 hv eb HR hset hk
    go_wp2_with (first
      | (refine wpl_loadOp rfl _ rfl g 0 { o with md := o.md % 2 + 2 } pv rfl (Blk.opAt HSE.out.1) ?_)
      | (refine wpl_storeOp rfl _ _ rfl rfl z { o with md := o.md % 2 + 2 } _ pv _ rfl rfl HS.out (HZ.out.keeps HSE.out.2 (fun e => hgz e.symm)) ?_; intro w9 hz9 hk9))
    rw [HQ.out]
    refine ret_op2 rfl rfl rfl rfl hz9 ⟨(HX.out.keeps HSE.out.2 (fun _ h1 h2 => by omega)).keeps hk9 (fun _ h1 h2 => by omega), rfl⟩
  have n119 : ((c.toNat : Int) == 119) = false := by rw [beq_eq_false_iff_ne]; omega
  by_cases a118 : c.toNat = 118
  · have eb : c = 118 := UInt8.toNat_inj.1 a118
    have HQ : Hid (R = some { o with inv := true }) := Lib.hid (by rw [← HR.out, eb]; rfl)
    have c2 : w2.cell? ⟨g, 2, none⟩ = some (.bool o.inv) := hg2.cell 2
    have f2 := hg2.frozen 2
    have hset := hg2.set 2 (.bool true)
    have hk := (Keeps.refl (· = g) w2).setCell (p := ⟨g, 2, none⟩) (.inr rfl) (.bool true)
    have HSE := Lib.hid (And.intro hset hk)
    clear hg2 hv eb HR hset hk
    go_wp2_with (first
      | (refine wpl_loadOp rfl _ rfl g 0 { o with inv := true } pv rfl (Blk.opAt HSE.out.1) ?_)
      | (refine wpl_storeOp rfl _ _ rfl rfl z { o with inv := true } _ pv _ rfl rfl HS.out (HZ.out.keeps HSE.out.2 (fun e => hgz e.symm)) ?_; intro w9 hz9 hk9))
    rw [HQ.out]
    refine ret_op2 rfl rfl rfl rfl hz9 ⟨(HX.out.keeps HSE.out.2 (fun _ h1 h2 => by omega)).keeps hk9 (fun _ h1 h2 => by omega), rfl⟩
  have n118 : ((c.toNat : Int) == 118) = false := by rw [beq_eq_false_iff_ne]; omega
  by_cases a99 : c.toNat = 99
  · have eb : c = 99 := UInt8.toNat_inj.1 a99
    have HQ : Hid (R = some { o with cnt := true }) := Lib.hid (by rw [← HR.out, eb]; rfl)
    have c3 : w2.cell? ⟨g, 3, none⟩ = some (.bool o.cnt) := hg2.cell 3
    have f3 := hg2.frozen 3
    have hset := hg2.set 3 (.bool true)
    have hk := (Keeps.refl (· = g) w2).setCell (p := ⟨g, 3, none⟩) (.inr rfl) (.bool true)
    have HSE := Lib.hid (And.intro hset hk)
    clear hg2 hv eb HR hset hk
    go_wp2_with (first
      | (refine wpl_loadOp rfl _ rfl g 0 { o with cnt := true } pv rfl (Blk.opAt HSE.out.1) ?_)
      | (refine wpl_storeOp rfl _ _ rfl rfl z { o with cnt := true } _ pv _ rfl rfl HS.out (HZ.out.keeps HSE.out.2 (fun e => hgz e.symm)) ?_; intro w9 hz9 hk9))
    rw [HQ.out]
    refine ret_op2 rfl rfl rfl rfl hz9 ⟨(HX.out.keeps HSE.out.2 (fun _ h1 h2 => by omega)).keeps hk9 (fun _ h1 h2 => by omega), rfl⟩
  have n99 : ((c.toNat : Int) == 99) = false := by rw [beq_eq_false_iff_ne]; omega
  by_cases a110 : c.toNat = 110
  · have eb : c = 110 := UInt8.toNat_inj.1 a110
    have HQ : Hid (R = some { o with num := true }) := Lib.hid (by rw [← HR.out, eb]; rfl)
    have c4 : w2.cell? ⟨g, 4, none⟩ = some (.bool o.num) := hg2.cell 4
    have f4 := hg2.frozen 4
    have hset := hg2.set 4 (.bool true)
    have hk := (Keeps.refl (· = g) w2).setCell (p := ⟨g, 4, none⟩) (.inr rfl) (.bool true)
    have HSE := Lib.hid (And.intro hset hk)
    clear hg2 hv eb HR hset hk
    go_wp2_with (first
      | (refine wpl_loadOp rfl _ rfl g 0 { o with num := true } pv rfl (Blk.opAt HSE.out.1) ?_)
      | (refine wpl_storeOp rfl _ _ rfl rfl z { o with num := true } _ pv _ rfl rfl HS.out (HZ.out.keeps HSE.out.2 (fun e => hgz e.symm)) ?_; intro w9 hz9 hk9))
    rw [HQ.out]
    refine ret_op2 rfl rfl rfl rfl hz9 ⟨(HX.out.keeps HSE.out.2 (fun _ h1 h2 => by omega)).keeps hk9 (fun _ h1 h2 => by omega), rfl⟩
  have n110 : ((c.toNat : Int) == 110) = false := by rw [beq_eq_false_iff_ne]; omega
  by_cases a111 : c.toNat = 111
  · have eb : c = 111 := UInt8.toNat_inj.1 a111
    have HQ : Hid (R = some { o with onl := true }) := Lib.hid (by rw [← HR.out, eb]; rfl)
    have c5 : w2.cell? ⟨g, 5, none⟩ = some (.bool o.onl) := hg2.cell 5
    have f5 := hg2.frozen 5
    have hset := hg2.set 5 (.bool true)
    have hk := (Keeps.refl (· = g) w2).setCell (p := ⟨g, 5, none⟩) (.inr rfl) (.bool true)
    have HSE := Lib.hid (And.intro hset hk)
    clear hg2 hv eb HR hset hk
    go_wp2_with (first
      | (refine wpl_loadOp rfl _ rfl g 0 { o with onl := true } pv rfl (Blk.opAt HSE.out.1) ?_)
      | (refine wpl_storeOp rfl _ _ rfl rfl z { o with onl := true } _ pv _ rfl rfl HS.out (HZ.out.keeps HSE.out.2 (fun e => hgz e.symm)) ?_; intro w9 hz9 hk9))
    rw [HQ.out]
    refine ret_op2 rfl rfl rfl rfl hz9 ⟨(HX.out.keeps HSE.out.2 (fun _ h1 h2 => by omega)).keeps hk9 (fun _ h1 h2 => by omega), rfl⟩
  have n111 : ((c.toNat : Int) == 111) = false := by rw [beq_eq_false_iff_ne]; omega
  by_cases a113 : c.toNat = 113
  · have eb : c = 113 := UInt8.toNat_inj.1 a113
    have HQ : Hid (R = some { o with qui := true }) := Lib.hid (by rw [← HR.out, eb]; rfl)
    have c6 : w2.cell? ⟨g, 6, none⟩ = some (.bool o.qui) := hg2.cell 6
    have f6 := hg2.frozen 6
    have hset := hg2.set 6 (.bool true)
    have hk := (Keeps.refl (· = g) w2).setCell (p := ⟨g, 6, none⟩) (.inr rfl) (.bool true)
    have HSE := Lib.hid (And.intro hset hk)
    clear hg2 hv eb HR hset hk
    go_wp2_with (first
      | (refine wpl_loadOp rfl _ rfl g 0 { o with qui := true } pv rfl (Blk.opAt HSE.out.1) ?_)
      | (refine wpl_storeOp rfl _ _ rfl rfl z { o with qui := true } _ pv _ rfl rfl HS.out (HZ.out.keeps HSE.out.2 (fun e => hgz e.symm)) ?_; intro w9 hz9 hk9))
    rw [HQ.out]
    refine ret_op2 rfl rfl rfl rfl hz9 ⟨(HX.out.keeps HSE.out.2 (fun _ h1 h2 => by omega)).keeps hk9 (fun _ h1 h2 => by omega), rfl⟩
  have n113 : ((c.toNat : Int) == 113) = false := by rw [beq_eq_false_iff_ne]; omega
  have HQ : Hid (R = none) := Lib.hid (by rw [← HR.out]; exact simp_bad ⟨a69, a71, a105, a120, a119, a118, a99, a110, a111, a113⟩)
  clear hg2 hv HR
  go_wp2_with (first
    | (refine wpl_loadOp rfl _ rfl g 0 o pv rfl (Blk.opAt HG.out) ?_)
    | (refine wpl_storeOp rfl _ _ rfl rfl z o _ pv _ rfl rfl HS.out HZ.out ?_; intro w9 hz9 hk9))
  rw [HQ.out]
  refine ret_op2 rfl rfl rfl rfl hz9 ⟨HX.out.keeps hk9 (fun _ h1 h2 => by omega), rfl⟩

end Go.Proofs.YtkcgbdoplhgbmaaDoor
