/- Laws of the walk for nodes taken whole: box, zero, load, store, literal list, append, return. No condition. -/
import Derived.Test.YtgfknlkpdiejgaaDoorForm
import Derived.Test.YtgfknlkpdiejgaaDoorNodeN
import Derived.Deep.MidRow
import Derived.Deep.WholeRow
import Derived.Great.BuildSlice
import Derived.Test.YtgfknlkpdiejgaaDoorProg
namespace Go.Proofs.YtgfknlkpdiejgaaDoor
open Go Go.RowKit

def nodeA (h : Hd) (sv : Value) : Array Value := (nodeC h sv).toArray
theorem nodeV_eq (h : Hd) (sv : Value) : nodeV h sv = .agg (nodeA h sv) := rfl
theorem nodeA_size (h : Hd) (sv : Value) : (nodeA h sv).size = 10 := rfl
theorem nodeA_get (h : Hd) (sv : Value) (i : Nat) : (nodeA h sv)[i]? = (nodeC h sv)[i]? := by simp [nodeA]
theorem info_sl : (Tryd.prog.info? 25).map (·.size) = some 1 := by kernel_rfl
theorem info_nd : (Tryd.prog.info? 27).map (·.size) = some 10 := by kernel_rfl
theorem info_ndA (h : Hd) (sv : Value) : (Tryd.prog.info? 27).map (·.size) = some (nodeA h sv).size := info_nd
def isSl (v : Value) : Prop := ∃ A n c, v = .slice A n c
theorem isSl.one {v : Value} (h : isSl v) : v.oneCell' = true := by obtain ⟨A, n, c, rfl⟩ := h; rfl
theorem isSl_mk (A : Option Addr) (n c : Nat) : isSl (.slice A n c) := ⟨A, n, c, rfl⟩
theorem NdOk.sl {W : World} {n : Nd} {sv : Value} (h : NdOk W n sv) : isSl sv := by
  obtain ⟨A, c, rfl⟩ := h.shape
  exact ⟨_, _, _, rfl⟩
theorem nodeC_one {h : Hd} {sv : Value} (hs : isSl sv) : ∀ u ∈ nodeC h sv, u.oneCell' = true := by
  intro u hu
  simp only [nodeC, List.mem_cons, List.not_mem_nil, or_false] at hu
  rcases hu with rfl | rfl | rfl | rfl | rfl | rfl | rfl | rfl | rfl | rfl
  all_goals first | rfl | exact hs.one
theorem nodeA_one {h : Hd} {sv : Value} (hs : isSl sv) : (nodeA h sv).all (·.oneCell') = true := by
  rw [Array.all_eq_true_iff_forall_mem]
  intro x hx
  exact nodeC_one (h := h) hs x (by simpa [nodeA] using hx)

/-- A node's ten cells lie here. -/
def NdAt (w : World) (g o : Nat) (h : Hd) (sv : Value) : Prop := ∀ i, i < 10 → w.cell? ⟨g, o + i, none⟩ = (nodeC h sv)[i]?
theorem NdAt.ext {w w' : World} {g o : Nat} {h : Hd} {sv : Value} (hn : NdAt w g o h sv) (hx : Ext w w') : NdAt w' g o h sv := fun i hi => by
  have hs : (nodeC h sv)[i]? = some (nodeC h sv)[i] := List.getElem?_eq_getElem (by simpa [nodeC] using hi)
  have := hn i hi
  rw [hs] at this ⊢
  exact hx.cell this
theorem NdAt.keeps {w w' : World} {F : Nat → Prop} {g o : Nat} {h : Hd} {sv : Value} (hn : NdAt w g o h sv) (hk : Keeps F w w') (hg : ¬ F g) : NdAt w' g o h sv := fun i hi => by
  have hs : (nodeC h sv)[i]? = some (nodeC h sv)[i] := List.getElem?_eq_getElem (by simpa [nodeC] using hi)
  have := hn i hi
  rw [hs] at this ⊢
  exact cell_keeps this hk hg
theorem Blk.nd {w : World} {g : Nat} {t : TypeId} {h : Hd} {sv : Value} (hb : Blk w g t (nodeA h sv)) : NdAt w g 0 h sv := fun i _ => by
  rw [Nat.zero_add, hb.cell, nodeA_get]
theorem NdOk.get {W : World} {h : Hd} {subs : List Nd} {A : Option Addr} {n c : Nat} (hn : NdOk W (.mk h subs) (.slice A n c)) (k : Nat) (hk : k < subs.length) :
    ∃ g o sv, A = some ⟨g, o, none⟩ ∧ NdAt W g (o + k * 10) (subs[k]).h sv ∧ NdOk W subs[k] sv := by
  unfold NdOk at hn
  obtain ⟨A', c', e, hs⟩ := hn
  injection e with e1 e2 e3
  subst e1
  obtain ⟨g, o, sv, h1, h2, h3⟩ := hs.get k hk
  exact ⟨g, o, sv, h1, fun i hi => by have := h2 i hi; rwa [Nat.zero_add] at this, h3⟩
theorem NdOk.len {W : World} {h : Hd} {subs : List Nd} {A : Option Addr} {n c : Nat} (hn : NdOk W (.mk h subs) (.slice A n c)) : n = subs.length := by
  unfold NdOk at hn
  obtain ⟨A', c', e, hs⟩ := hn
  injection e

theorem Ext.keep1 {w0 w w1 : World} {g : Nat} (h : Ext w0 w) (k : Keeps (· = g) w w1) (hg : w0.heap.size ≤ g) : Ext w0 w1 := h.keeps k (fun i hi e => by omega)
theorem Blk.keep1 {w w1 : World} {g k : Nat} {t : TypeId} {cs : Array Value} (h : Blk w k t cs) (hk : Keeps (· = g) w w1) (hne : k ≠ g) : Blk w1 k t cs := h.keeps hk hne
theorem NdNew.keep1 {B : Nat} {w w1 : World} {g : Nat} {n : Nd} {sv : Value} (h : NdNew B w n sv) (k : Keeps (· = g) w w1) (hg : g < B) : NdNew B w1 n sv := by
  obtain ⟨fp, h1, h2, h3⟩ := h
  exact ⟨fp, h1.keep (fun b hb => sameAt_of_block (k.block b (h3 b hb).2 (fun e => by have := (h3 b hb).1; omega))), h2, fun b hb => ⟨(h3 b hb).1, Nat.lt_of_lt_of_le (h3 b hb).2 k.size⟩⟩
/-- A list of one new tree. -/
theorem NdNew.one {B : Nat} {w w1 : World} {n : Nd} {sv : Value} {g : Nat} {t : TypeId} (h : NdNew B w n sv) (hx : Ext w w1) (hg : Blk w1 g t (nodeA n.h sv)) (hge : w.heap.size ≤ g) (hB : B ≤ w.heap.size) (hd : Hd) (c : Nat) (hc1 : 1 ≤ c := by omega) : NdNew B w1 (.mk hd [n]) (.slice (some ⟨g, 0, none⟩) 1 c) := by
  obtain ⟨fp, h1, h2, h3⟩ := h
  refine ⟨g :: fp, ?_, List.nodup_cons.2 ⟨fun hm => by have := (h3 g hm).2; omega, h2⟩, fun b hb => ?_⟩
  · unfold NdFp
    refine .inr ⟨g, c, fp, rfl, rfl, ⟨⟨_, _, hg⟩, hc1⟩, ?_⟩
    unfold NdsFp
    refine ⟨fp, [], sv, by simp, fun i _ => by rw [Nat.zero_mul, Nat.zero_add, hg.cell, nodeA_get], h1.ext hx (fun b hb => (h3 b hb).2), by unfold NdsFp; rfl⟩
  · rcases List.mem_cons.1 hb with rfl | hb
    · exact ⟨by omega, hg.lt⟩
    · exact ⟨(h3 b hb).1, Nat.lt_of_lt_of_le (h3 b hb).2 hx.size⟩
theorem wd_no (i : Nat) : wd (fun _ => false) i = 0 := wd_none i
theorem node_lit (k n mn mx : Int) (b : Bool) (sv : Value) : Value.agg #[.int .i64 k, .int .u64 0, .int .u64 0, .int .u64 0, .int .u64 0, sv, .int .i64 n, .int .i64 mn, .int .i64 mx, .bool b] = nodeV ⟨k, fun _ => false, n, mn, mx, b⟩ sv := by
  unfold nodeV
  simp only [wd_no]
  rfl
/-- What a call that makes a tree answers. -/
def RetNd (w : World) (n : Nd) (r : Ending) (w' : World) : Prop := ∃ sv, r = .returned (nodeV n.h sv) ∧ NdNew w.heap.size w' n sv ∧ Ext w w'

section
variable {ops : Array Oper} {rest : List Oper} {o : Oper} {a : Act} {w : World} {Q : Exit → Act → World → Prop}
theorem run_storeVar_cell {P : Program} (w : World) (b o : Nat) (ty : TypeId) (v u : Value) (hc : w.cell? ⟨b, o, none⟩ = some u) (hf : w.frozen? ⟨b, o, none⟩ = false) (hi : (P.info? ty).map (·.size) = some 1) (h1 : v.oneCell' = true) :
    (storeVar ty ⟨b, o, none⟩ v).run P w = .ok () (w.setCell ⟨b, o, none⟩ v) := by
  have hst : (store ((⟨b, o, none⟩ : Addr).add 0) v).run P w = .ok () (w.setCell ⟨b, o, none⟩ v) := by
    rw [Addr.add_mid, Nat.add_zero, run_store P w _ v _ h1, hc]
    simp [hf]
  have hcs : v.cells = #[v] := by cases v <;> first | rfl | cases h1
  obtain ⟨i, hq, hs⟩ := Option.map_eq_some_iff.1 hi
  simp [storeVar, sizeOf, typeInfo, hq, hcs, hs, storeCells, hst]
/-- 'box' of a node. -/
theorem wpl_boxNd (hgd : o.guard = none) (x : Operand) (ho : o.op = .box 27 x) (h : Hd) (sv : Value) (hx : a.eval x = nodeV h sv)
    (hK : ∀ g w1, Blk w1 g 27 (nodeA h sv) → Ext w w1 → w.heap.size ≤ g → g < w1.heap.size → wpList Tryd.prog ops Q rest (a.put o.dst (.pointer (some ⟨g, 0, none⟩))) w1) : wpList Tryd.prog ops Q (o :: rest) a w :=
  wpList_plain hgd fun _ hKK => by
    have hr : (execOp a.eval o).run Tryd.prog w = .ok (.value (.pointer (some ⟨w.heap.size, 0, none⟩))) (w.alloc (.cells (nodeA h sv) 27)) := by
      unfold execOp
      rw [ho]
      simp [Instr.box, hx, nodeV_eq, newVar, newRow, Value.cells]
    unfold Oper.wp
    rw [hr]
    exact hKK _ _ (hK _ _ (Blk.new w _ _) ((Ext.refl w).alloc _) (Nat.le_refl _) (by simp))
/-- 'alloc' of a node: the zero. -/
theorem zero_nd : (Tryd.prog.info? 27).map (fun i => i.zero) = some (some (nodeV (⟨0, fun _ => false, 0, 0, 0, false⟩ : Hd) (.slice none 0 0))) := by kernel_rfl
theorem wpl_allocNd (hgd : o.guard = none) (ho : o.op = .alloc 27)
    (hK : ∀ g w1, Blk w1 g 27 (nodeA ⟨0, fun _ => false, 0, 0, 0, false⟩ (.slice none 0 0)) → Ext w w1 → w.heap.size ≤ g → g < w1.heap.size → wpList Tryd.prog ops Q rest (a.put o.dst (.pointer (some ⟨g, 0, none⟩))) w1) : wpList Tryd.prog ops Q (o :: rest) a w :=
  wpList_plain hgd fun _ hKK => by
    have hr : (execOp a.eval o).run Tryd.prog w = .ok (.value (.pointer (some ⟨w.heap.size, 0, none⟩))) (w.alloc (.cells (nodeA ⟨0, fun _ => false, 0, 0, 0, false⟩ (.slice none 0 0)) 27)) := by
      unfold execOp
      rw [ho]
      simp [Instr.alloc, newVar, newRow, Value.cells]
      rfl
    unfold Oper.wp
    rw [hr]
    exact hKK _ _ (hK _ _ (Blk.new w _ _) ((Ext.refl w).alloc _) (Nat.le_refl _) (by simp))
/-- The load of a whole node. -/
theorem wpl_loadNd (hgd : o.guard = none) (x : Operand) (ho : o.op = .load 27 x) (g k : Nat) (h : Hd) (sv : Value) (hx : a.eval x = .pointer (some ⟨g, k, none⟩)) (hN : NdAt w g k h sv)
    (hK : wpList Tryd.prog ops Q rest (a.put o.dst (nodeV h sv)) w) : wpList Tryd.prog ops Q (o :: rest) a w :=
  wpList_load_mid hgd 27 x ho g k hx (nodeC h sv) _ (fun j v hv => by
    have hj : j < 10 := (List.getElem?_eq_some_iff.1 hv).1
    rw [hN j hj, hv]) Tryd.underlying27 rfl info_nd hK
/-- The store of a whole node into a block of its own. -/
theorem wpl_storeNd (hgd : o.guard = none) (x y : Operand) (ho : o.op = .store 27 x y) (hd : o.dst = none) (g : Nat) (h h' : Hd) (sv sv' : Value) (hx : a.eval x = .pointer (some ⟨g, 0, none⟩)) (hy : a.eval y = nodeV h sv) (hs : isSl sv) (hB : Blk w g 27 (nodeA h' sv'))
    (hK : ∀ w1, Blk w1 g 27 (nodeA h sv) → Keeps (· = g) w w1 → wpList Tryd.prog ops Q rest a w1) : wpList Tryd.prog ops Q (o :: rest) a w := by
  have hpa : a.put o.dst undef = a := by rw [hd]; rfl
  rw [← hpa] at hK
  refine wpList_store_row hgd _ x y ho g (nodeA h sv) hx hy _ (nodeA h' sv') hB (info_ndA h sv) rfl (nodeA_one hs) (hK _ (setRow_heap w g _ _ _ _ hB) ⟨rfl, rfl, rfl, by simp, fun k _ hk => setRow_other w g k _ hk⟩)
/-- The store of a node's list. -/
theorem wpl_storeSubs (hgd : o.guard = none) (x y : Operand) (ho : o.op = .store 25 x y) (hd : o.dst = none) (g : Nat) (h : Hd) (sv sv' : Value) (hx : a.eval x = .pointer (some ⟨g, 5, none⟩)) (hy : a.eval y = sv) (hs : isSl sv) (hB : Blk w g 27 (nodeA h sv'))
    (hK : ∀ w1, Blk w1 g 27 (nodeA h sv) → Keeps (· = g) w w1 → wpList Tryd.prog ops Q rest a w1) : wpList Tryd.prog ops Q (o :: rest) a w := by
  have hpa : a.put o.dst undef = a := by rw [hd]; rfl
  rw [← hpa] at hK
  refine wpList_plain hgd fun _ hKK => ?_
  have hc : w.cell? ⟨g, 5, none⟩ = some sv' := by rw [hB.cell]; rfl
  unfold Oper.wp execOp
  simp only [ho, hx, hy, Instr.storeAt, Instr.sureAddr, Sem.run_bind, Sem.run_pure, Result.andThen_ok, run_storeVar_cell (P := Tryd.prog) w g 5 25 sv sv' hc (hB.frozen 5) info_sl hs.one]
  exact hKK _ _ (hK _ (hB.set 5 _) ((Keeps.refl (· = g) w).setCell (.inr rfl) _))
/-- The store of a whole node into a list of the call's own. -/
theorem wpl_setNd (hgd : o.guard = none) (x y : Operand) (ho : o.op = .store 27 x y) (hd : o.dst = none) (B g n c : Nat) (rows : List (List Value)) (j : Nat) (h : Hd) (sv : Value) (hx : a.eval x = .pointer (some ⟨g, j * 10, none⟩)) (hy : a.eval y = nodeV h sv) (hs : isSl sv)
    (hO : OwnR w B 27 10 (.slice (some ⟨g, 0, none⟩) n c) rows) (hj : j < rows.length)
    (hK : ∀ w1, OwnR w1 B 27 10 (.slice (some ⟨g, 0, none⟩) n c) (rows.set j (nodeC h sv)) → w.grownBy w1 (some g) → wpList Tryd.prog ops Q rest a w1) : wpList Tryd.prog ops Q (o :: rest) a w := by
  have hpa : a.put o.dst undef = a := by rw [hd]; rfl
  rw [← hpa] at hK
  obtain ⟨h1, h2⟩ := hO.store (by decide) j hj (nodeC_len h sv)
  refine wpList_store_mid hgd 27 x y ho g (j * 10) (nodeA h sv) hx hy (fun i hi => ⟨?_, hO.frozen _⟩) (info_ndA h sv) (nodeA_one hs) (hK _ h1 h2)
  have hr : rows[j]? = some rows[j] := List.getElem?_eq_getElem hj
  rw [hO.cell j _ hr i hi, List.getElem?_eq_getElem (by rw [hO.2 _ (List.getElem_mem hj)]; exact hi)]
  rfl
/-- A list literal of one node. -/
theorem wpl_oneNd (hgd : o.guard = none) (x : Operand) (ho : o.op = .buildSlice 25 1 #[(0, x)]) (h : Hd) (sv : Value) (hx : a.eval x = nodeV h sv)
    (hK : ∀ g w1, Blk w1 g 27 (nodeA h sv) → Ext w w1 → w.heap.size ≤ g → g < w1.heap.size → wpList Tryd.prog ops Q rest (a.put o.dst (.slice (some ⟨g, 0, none⟩) 1 1)) w1) : wpList Tryd.prog ops Q (o :: rest) a w := by
  obtain ⟨i, hi, hz⟩ := Option.map_eq_some_iff.1 zero_nd
  have hs : i.size = 10 := by have := info_nd; rw [hi] at this; simpa using this
  refine wpList_buildSlice hgd 25 27 1 _ ho (nodeA h sv) i _ Tryd.underlying25 hi hz (by rw [hs]; decide) (by rw [hs]; decide) ?_ (hK _ _ (Blk.new w _ _) ((Ext.refl w).alloc _) (Nat.le_refl _) (by simp))
  rw [hs]
  have hf := Great.fill_whole (s := 10) (by decide) [nodeV h sv] ((Array.range (1 * 10)).map ((nodeV ⟨0, fun _ => false, 0, 0, 0, false⟩ (.slice none 0 0)).cells[· % (nodeV ⟨0, fun _ => false, 0, 0, 0, false⟩ (.slice none 0 0)).cells.size]!)) (fun v hv => by simp only [List.mem_singleton] at hv; subst hv; rfl) (by simp)
  have e : (List.map (fun x => (x.2, x.1)) ([nodeV h sv].zipIdx 0)) = (Array.map (fun x => (x.1, a.eval x.2)) #[(0, x)]).toList := by simp [hx]
  rw [e] at hf
  rw [hf]
  simp [nodeV_eq, Value.cells]
/-- A return of a node that lies in the result's block. -/
theorem ret_nd {fn : Func} {x : Tmp} {R : Ending → World → Prop} {g : Nat} {h : Hd} {sv : Value} (hr : fn.results = #[.cell x 27]) (hp : a.tmps.getD x undef = .pointer (some ⟨g, 0, none⟩)) (hd : a.defers = [])
    (hB : Blk w g 27 (nodeA h sv)) (hR : R (.returned (nodeV h sv)) w) : bodyPost Tryd.prog fn R .ret a w :=
  bodyPost_ret (results_cell_row hr a.tmps w g 27 (nodeA h sv) (0, 0) _ hp hB Tryd.underlying27 rfl (info_ndA h sv)) hd hR

/-- The load of a whole node, guarded. -/
theorem wpl_loadNdG (x : Operand) (ho : o.op = .load 27 x) (hw : Region.wanted o (yielded ops a.tmps) = true) (g k : Nat) (h : Hd) (sv : Value) (hx : a.eval x = .pointer (some ⟨g, k, none⟩)) (hN : NdAt w g k h sv)
    (hK : wpList Tryd.prog ops Q rest (a.put o.dst (nodeV h sv)) w) : wpList Tryd.prog ops Q (o :: rest) a w := by
  unfold wpList
  rw [if_pos hw]
  exact .inl (wp_load_mid 27 x ho g k hx (nodeC h sv) _ (fun j v hv => by
    have hj : j < 10 := (List.getElem?_eq_some_iff.1 hv).1
    rw [hN j hj, hv]) Tryd.underlying27 rfl info_nd hK)

theorem info_ndZ : (Tryd.prog.info? 27).map (fun i => (i.zero, i.size, i.bytes)) = some (some (.agg (nodeC ⟨0, fun _ => false, 0, 0, 0, false⟩ (.slice none 0 0)).toArray), 10, 96) := by kernel_rfl
def zrow : List Value := nodeC ⟨0, fun _ => false, 0, 0, 0, false⟩ (.slice none 0 0)
/-- 'list = append(list, node)' where the call made the list and the node's lists. -/
theorem wpl_appFp (hgd : o.guard = none) (s x : Operand) (ho : o.op = .call { callee := .builtin .append, args := #[s, x], argTypes := #[25, 25] })
    (B : Nat) (v : Value) (l : List Kid) (n : Nd) (sv : Value) (g c : Nat) (W : World) (hs : a.eval s = v) (hx : a.eval x = .slice (some ⟨g, 0, none⟩) 1 c) (hL : LstFp W B 27 v l) (hW : Ext W w) (hB : B ≤ W.heap.size) (hn : NdNew W.heap.size w n sv) (hg : Blk w g 27 (nodeA n.h sv)) (hl : l.length ≤ 1000000000)
    (hK : ∀ v' w1, (∃ f, LstFp w1 B 27 v' (l ++ [(n, sv, f)])) → Ext W w → w.grownBy w1 v.ownBlock → wpList Tryd.prog ops Q rest (a.put o.dst v') w1) : wpList Tryd.prog ops Q (o :: rest) a w := by
  have hE := hL.ext hW
  have hO : OwnR w B 27 10 v (kidsRow l) := by simpa using hE.own
  refine wpList_appR hgd s x _ ho B 27 _ 10 96 Tryd.underlying25 info_ndZ rfl (by decide) v (kidsRow l) hs hO g c (nodeC n.h sv) rfl hx (fun i _ => by rw [hg.cell, nodeA_get]) (nodeC_one hn.ok.sl) (by simp [kidsRow]; omega) (by simp [kidsRow]; omega) (Nat.le_trans hB hW.size) ?_
  intro v' w1 h1 h2 h3
  exact hK v' w1 (LstZ.snoc hL hW hB hn (by simpa using h1) h2 h3) hW h2
theorem ext_grown_lst {W w0 w w1 : World} {B : Nat} {v : Value} {l : List Kid} (h : Ext w0 w) (hL : LstFp W B 27 v l) (hB : w0.heap.size ≤ B) (hg : w.grownBy w1 v.ownBlock) : Ext w0 w1 :=
  h.grown hg fun k hk => by have := (hL.own.own k hk).1; omega
end

end Go.Proofs.YtgfknlkpdiejgaaDoor
