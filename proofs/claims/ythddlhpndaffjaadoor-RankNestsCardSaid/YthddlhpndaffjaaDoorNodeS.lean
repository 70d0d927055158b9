/- Whole nodes loaded in a region's quiet head; two sets compared; a world that has drawn. No condition. -/
import Derived.Test.YthddlhpndaffjaaDoorSameP
import Derived.Test.YthddlhpndaffjaaDoorNodeW
import Derived.StillTailTactics
namespace Go.Proofs.YthddlhpndaffjaaDoor
open Go Go.RowKit

/-- The load of a whole node in a region's quiet head. -/
theorem wpStill_loadNd {ops : Array Oper} {rest : List Oper} {o : Oper} {a : Act} {w : World} {Q : Act → Prop} (x : Operand) (ho : o.op = .load 27 x) (hw : Region.wanted o (yielded ops a.tmps) = true) (g k : Nat) (h : Hd) (sv : Value) (hx : a.eval x = .pointer (some ⟨g, k, none⟩)) (hN : NdAt w g k h sv)
    (hK : wpStill Tryd.prog ops w Q rest (a.put o.dst (nodeV h sv))) : wpStill Tryd.prog ops w Q (o :: rest) a := by
  unfold wpStill
  rw [if_pos hw]
  have hr := run_loadAt_mid (P := Tryd.prog) w g k 27 (nodeC h sv) _ (fun j v hv => by
    have hj : j < 10 := (List.getElem?_eq_some_iff.1 hv).1
    rw [hN j hj, hv]) Tryd.underlying27 rfl info_nd
  unfold Oper.still execOp
  simp only [ho, hx, Sem.run_bind, Sem.run_pure, Result.andThen_ok, hr]
  rw [Oper.stillUpon_value]
  exact hK
theorem neq_set (p q : Nat → Bool) (w : World) :
    (binOp .neq 24 (.agg #[.int .u64 (wd p 0 : Int), .int .u64 (wd p 1 : Int), .int .u64 (wd p 2 : Int), .int .u64 (wd p 3 : Int)]) (.agg #[.int .u64 (wd q 0 : Int), .int .u64 (wd q 1 : Int), .int .u64 (wd q 2 : Int), .int .u64 (wd q 3 : Int)])).run Tryd.prog w = .ok (.bool (!wordsB p q)) w := neq_words _ _ _ _ _ _ _ _ w
theorem NdAt.drew {w : World} {g o : Nat} {h : Hd} {sv : Value} (hn : NdAt w g o h sv) : NdAt w.drew g o h sv := fun i hi => hn i hi
theorem Ext.drewr {w w' : World} (h : Ext w w') : Ext w w'.drew := h.trans (Ext.drew (Ext.refl w'))

end Go.Proofs.YthddlhpndaffjaaDoor
