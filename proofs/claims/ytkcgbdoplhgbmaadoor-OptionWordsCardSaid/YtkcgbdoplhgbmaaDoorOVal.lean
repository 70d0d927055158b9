/- Options taken whole: load, store, zero, return. No condition. -/
import Derived.Test.YtkcgbdoplhgbmaaDoorORd
import Derived.Deep.MidRow
import Derived.Deep.WholeRow
namespace Go.Proofs.YtkcgbdoplhgbmaaDoor
open Go Go.RowKit

/-- Options as a value. -/
def opC (o : Ops) (pv : Value) : List Value := [.int .i64 o.fl, .int .i64 o.md, .bool o.inv, .bool o.cnt, .bool o.num, .bool o.onl, .bool o.qui, .int .i64 o.most, pv]
def opA (o : Ops) (pv : Value) : Array Value := (opC o pv).toArray
def opV (o : Ops) (pv : Value) : Value := .agg (opA o pv)
def zeroO : Ops := ⟨0, 0, false, false, false, false, false, 0, []⟩
theorem info_op : (Tryd.prog.info? 46).map (·.size) = some 9 := by kernel_rfl
theorem info_opA (o : Ops) (pv : Value) : (Tryd.prog.info? 46).map (·.size) = some (opA o pv).size := info_op
theorem zero_op : (Tryd.prog.info? 46).map (fun i => i.zero) = some (some (opV zeroO (.slice none 0 0))) := by kernel_rfl
def IsS (v : Value) : Prop := ∃ A n c, v = .slice A n c
theorem opA_one {o : Ops} {pv : Value} (hs : IsS pv) : (opA o pv).all (·.oneCell') = true := by
  obtain ⟨A, n, c, rfl⟩ := hs
  rw [Array.all_eq_true_iff_forall_mem]
  intro x hx
  have hx' : x ∈ opC o (.slice A n c) := by simpa [opA] using hx
  simp only [opC, List.mem_cons, List.not_mem_nil, or_false] at hx'
  rcases hx' with rfl | rfl | rfl | rfl | rfl | rfl | rfl | rfl | rfl
  all_goals rfl
theorem opA_get (o : Ops) (pv : Value) (i : Nat) : (opA o pv)[i]? = (opC o pv)[i]? := by simp [opA]
/-- The options' nine cells lie here. -/
def OpAt (w : World) (g k : Nat) (o : Ops) (pv : Value) : Prop := ∀ i, i < 9 → w.cell? ⟨g, k + i, none⟩ = (opC o pv)[i]?
theorem OpAt.ext {w w' : World} {g k : Nat} {o : Ops} {pv : Value} (hn : OpAt w g k o pv) (hx : Ext w w') : OpAt w' g k o pv := fun i hi => by
  have hs : (opC o pv)[i]? = some (opC o pv)[i] := List.getElem?_eq_getElem (by simpa [opC] using hi)
  have := hn i hi
  rw [hs] at this ⊢
  exact hx.cell this
section
variable {ops : Array Oper} {rest : List Oper} {o : Oper} {a : Act} {w : World} {Q : Exit → Act → World → Prop}
theorem wpl_loadOp (hgd : o.guard = none) (x : Operand) (ho : o.op = .load 46 x) (g k : Nat) (p : Ops) (pv : Value) (hx : a.eval x = .pointer (some ⟨g, k, none⟩)) (hN : OpAt w g k p pv)
    (hK : wpList Tryd.prog ops Q rest (a.put o.dst (opV p pv)) w) : wpList Tryd.prog ops Q (o :: rest) a w :=
  wpList_load_mid hgd 46 x ho g k hx (opC p pv) _ (fun j v hv => by
    have hj : j < 9 := (List.getElem?_eq_some_iff.1 hv).1
    rw [hN j hj, hv]) Tryd.underlying46 rfl info_op hK
theorem wpl_storeOp (hgd : o.guard = none) (x y : Operand) (ho : o.op = .store 46 x y) (hd : o.dst = none) (g : Nat) (p p' : Ops) (pv pv' : Value) (hx : a.eval x = .pointer (some ⟨g, 0, none⟩)) (hy : a.eval y = opV p pv) (hs : IsS pv) (hB : Blk w g 46 (opA p' pv'))
    (hK : ∀ w1, Blk w1 g 46 (opA p pv) → Keeps (· = g) w w1 → wpList Tryd.prog ops Q rest a w1) : wpList Tryd.prog ops Q (o :: rest) a w := by
  have hpa : a.put o.dst undef = a := by rw [hd]; rfl
  rw [← hpa] at hK
  refine wpList_store_row hgd _ x y ho g (opA p pv) hx hy _ (opA p' pv') hB (info_opA p pv) rfl (opA_one hs) (hK _ (setRow_heap w g _ _ _ _ hB) ⟨rfl, rfl, rfl, by simp, fun k _ hk => setRow_other w g k _ hk⟩)
theorem wpl_allocOp (hgd : o.guard = none) (ho : o.op = .alloc 46)
    (hK : ∀ g w1, Blk w1 g 46 (opA zeroO (.slice none 0 0)) → Ext w w1 → w.heap.size ≤ g → g < w1.heap.size → wpList Tryd.prog ops Q rest (a.put o.dst (.pointer (some ⟨g, 0, none⟩))) w1) : wpList Tryd.prog ops Q (o :: rest) a w :=
  wpList_plain hgd fun _ hKK => by
    have hr : (execOp a.eval o).run Tryd.prog w = .ok (.value (.pointer (some ⟨w.heap.size, 0, none⟩))) (w.alloc (.cells (opA zeroO (.slice none 0 0)) 46)) := by
      unfold execOp
      rw [ho]
      simp [Instr.alloc, newVar, newRow, Value.cells]
      rfl
    unfold Oper.wp
    rw [hr]
    exact hKK _ _ (hK _ _ (Blk.new w _ _) ((Ext.refl w).alloc _) (Nat.le_refl _) (by simp))
/-- 'box' of a reader. -/
theorem wpl_boxRd (hgd : o.guard = none) (x : Operand) (ho : o.op = .box 87 x) (wv : Value) (i t : Nat) (p : Ops) (pv : Value) (hx : a.eval x = .agg (rdC wv i p pv t))
    (hK : ∀ g w1, Blk w1 g 87 (rdC wv i p pv t) → Ext w w1 → w.heap.size ≤ g → g < w1.heap.size → wpList Tryd.prog ops Q rest (a.put o.dst (.pointer (some ⟨g, 0, none⟩))) w1) : wpList Tryd.prog ops Q (o :: rest) a w :=
  wpList_plain hgd fun _ hKK => by
    have hr : (execOp a.eval o).run Tryd.prog w = .ok (.value (.pointer (some ⟨w.heap.size, 0, none⟩))) (w.alloc (.cells (rdC wv i p pv t) 87)) := by
      unfold execOp
      rw [ho]
      simp [Instr.box, hx, newVar, newRow, Value.cells]
    unfold Oper.wp
    rw [hr]
    exact hKK _ _ (hK _ _ (Blk.new w _ _) ((Ext.refl w).alloc _) (Nat.le_refl _) (by simp))
end
theorem ret_op2 {a : Act} {w : World} {fn : Func} {x y : Tmp} {R : Ending → World → Prop} {g : Nat} {p : Ops} {pv e : Value} (hr : fn.results = #[.cell x 46, .tmp y]) (hp : a.tmps.getD x undef = .pointer (some ⟨g, 0, none⟩)) (he : a.tmps.getD y undef = e) (hd : a.defers = [])
    (hB : Blk w g 46 (opA p pv)) (hR : R (.returned (.tuple #[opV p pv, e])) w) : bodyPost Tryd.prog fn R .ret a w := by
  refine bodyPost_ret (v := .tuple #[opV p pv, e]) ?_ hd hR
  have h1 := run_loadVar_row (P := Tryd.prog) w g 46 46 (opA p pv) (0, 0) _ hB Tryd.underlying46 rfl (info_opA p pv)
  have hp' : a.tmps[x]?.getD undef = .pointer (some ⟨g, 0, none⟩) := by simpa using hp
  have he' : a.tmps[y]?.getD undef = e := by simpa using he
  simp [results, hr, hp', he', asAddr, h1, opV]
theorem RdSt.opAt {W : World} {B b : Nat} {wv : Value} {i : Nat} {o : Ops} {t : Nat} (h : RdSt W B b wv i o t) : ∃ (pv : Value) (ps : List ByteArray), OpAt W b 2 o pv ∧ Own1 W B 9 pv (ps.map Value.string) ∧ ps.map byB = o.pats ∧ IsS pv := by
  obtain ⟨pv, ps, h1, h2, h3, h4⟩ := h
  refine ⟨pv, ps, fun k hk => ?_, h3, h4, ?_⟩
  · rw [h2.cell]
    match k, hk with
    | 0, _ => rfl
    | 1, _ => rfl
    | 2, _ => rfl
    | 3, _ => rfl
    | 4, _ => rfl
    | 5, _ => rfl
    | 6, _ => rfl
    | 7, _ => rfl
    | 8, _ => rfl
  · obtain ⟨A, c, hv, _⟩ := h3.shape
    exact ⟨A, _, c, hv⟩

end Go.Proofs.YtkcgbdoplhgbmaaDoor
