/- trawlref04.used as a contract; one cell, or the set, stored into a node of the call's own. No condition. -/
import Derived.Test.YthddlhpndaffjaaDoorNodeS
namespace Go.Proofs.YthddlhpndaffjaaDoor
open Go Go.RowKit

section
variable {ops : Array Oper} {rest : List Oper} {o : Oper} {a : Act} {w : World} {Q : Exit → Act → World → Prop}
/-- The store of one cell of a block. -/
theorem wpl_storeCell (hgd : o.guard = none) (ty : TypeId) (x y : Operand) (ho : o.op = .store ty x y) (hd : o.dst = none) (g k : Nat) (v u : Value) (hx : a.eval x = .pointer (some ⟨g, k, none⟩)) (hy : a.eval y = v) (hi : (Tryd.prog.info? ty).map (·.size) = some 1) (h1 : v.oneCell' = true) (t : TypeId) (cs : Array Value) (hB : Blk w g t cs) (hc : cs[k]? = some u)
    (hK : ∀ w1, Blk w1 g t (cs.setIfInBounds k v) → Keeps (· = g) w w1 → wpList Tryd.prog ops Q rest a w1) : wpList Tryd.prog ops Q (o :: rest) a w := by
  have hpa : a.put o.dst undef = a := by rw [hd]; rfl
  rw [← hpa] at hK
  refine wpList_plain hgd fun _ hKK => ?_
  have hc : w.cell? ⟨g, k, none⟩ = some u := by rw [hB.cell]; exact hc
  unfold Oper.wp execOp
  simp only [ho, hx, hy, Instr.storeAt, Instr.sureAddr, Sem.run_bind, Sem.run_pure, Result.andThen_ok, run_storeVar_cell (P := Tryd.prog) w g k ty v u hc (hB.frozen k) hi h1]
  exact hKK _ _ (hK _ (hB.set k _) ((Keeps.refl (· = g) w).setCell (.inr rfl) _))
theorem info_set4 (p : Nat → Bool) : (Tryd.prog.info? 24).map (·.size) = some (#[Value.int .u64 (wd p 0 : Int), .int .u64 (wd p 1 : Int), .int .u64 (wd p 2 : Int), .int .u64 (wd p 3 : Int)] : Array Value).size := by kernel_rfl
/-- The store of a node's set. -/
theorem wpl_storeSetIn (hgd : o.guard = none) (x y : Operand) (ho : o.op = .store 24 x y) (hd : o.dst = none) (g : Nat) (h : Hd) (sv : Value) (p : Nat → Bool) (hx : a.eval x = .pointer (some ⟨g, 1, none⟩)) (hy : a.eval y = .agg #[.int .u64 (wd p 0 : Int), .int .u64 (wd p 1 : Int), .int .u64 (wd p 2 : Int), .int .u64 (wd p 3 : Int)]) (hB : Blk w g 27 (nodeA h sv))
    (hK : ∀ w1, Blk w1 g 27 (nodeA { h with set := p } sv) → Keeps (· = g) w w1 → wpList Tryd.prog ops Q rest a w1) : wpList Tryd.prog ops Q (o :: rest) a w := by
  have hpa : a.put o.dst undef = a := by rw [hd]; rfl
  rw [← hpa] at hK
  have hs : w.setCells g 1 [.int .u64 (wd p 0 : Int), .int .u64 (wd p 1 : Int), .int .u64 (wd p 2 : Int), .int .u64 (wd p 3 : Int)] = (((w.setCell ⟨g, 1, none⟩ (.int .u64 (wd p 0 : Int))).setCell ⟨g, 2, none⟩ (.int .u64 (wd p 1 : Int))).setCell ⟨g, 3, none⟩ (.int .u64 (wd p 2 : Int))).setCell ⟨g, 4, none⟩ (.int .u64 (wd p 3 : Int)) := rfl
  refine wpList_store_mid hgd 24 x y ho g 1 _ hx hy (fun i hi => ⟨?_, hB.frozen _⟩) (info_set4 p) (by simp [Value.oneCell']) (hK _ ?_ ?_)
  · have hi4 : i < 4 := hi
    rw [hB.cell, nodeA_get]
    rcases (show i = 0 ∨ i = 1 ∨ i = 2 ∨ i = 3 from by omega) with rfl | rfl | rfl | rfl <;> rfl
  · rw [hs]
    exact (((hB.set 1 _).set 2 _).set 3 _).set 4 _
  · rw [hs]
    exact ((((Keeps.refl (· = g) w).setCell (.inr rfl) _).setCell (.inr rfl) _).setCell (.inr rfl) _).setCell (.inr rfl) _
end
theorem info_int1 : (Tryd.prog.info? 3).map (·.size) = some 1 := by kernel_rfl
theorem info_bool1 : (Tryd.prog.info? 4).map (·.size) = some 1 := by kernel_rfl

/-- A node with nothing but what its kind uses. -/
def usedH (h : Hd) : Hd := ⟨h.kind, if h.kind = 2 then h.set else noS, if h.kind = 7 then h.num else 0, if h.kind = 8 then h.min else 0, if h.kind = 8 then h.max else 0, if h.kind = 8 then h.bare else false⟩

set_option maxRecDepth 100000 in
set_option maxHeartbeats 4000000 in
theorem used_any (h : Hd) (sv : Value) (hsv : isSl sv) (w : World) :
    Calls Tryd.prog 103 #[nodeV h sv] w fun r w' => r = .returned (nodeV (usedH h) (.slice none 0 0)) ∧ Ext w w' := by
  obtain ⟨A, len, c, rfl⟩ := hsv
  go_enter Tryd.func103, Tryd.ntmps103
  go_upto_region 1 with (first
    | (refine wpl_boxNd rfl _ rfl h _ rfl ?_; intro b w1 hb hx1 eb sb)
    | (refine wpl_allocNd rfl rfl ?_; intro z w2 hz hx2 ez sz))
  have hb2 := hb.ext hx2
  have hx12 := hx1.trans hx2
  have c0 : w2.cell? ⟨b, 0, none⟩ = some (.int .i64 h.kind) := hb2.cell 0
  have hwz : w.heap.size ≤ z := by omega
  clear hb hx1 hx2 eb sb ez
  go_upto_region 2 with (first
    | (refine wpl_allocNd rfl rfl ?_; intro s w3 hs hx3 es ss)
    | (refine wpl_storeNd rfl _ _ rfl rfl s ⟨h.kind, noS, 0, 0, 0, false⟩ _ (.slice none 0 0) _ rfl (node_lit _ _ _ _ _ _) (isSl_mk _ _ _) hs ?_; intro w4 hs4 hk4))
  have hx4 := hx3.keep1 hk4 es
  have hb4 := hb2.ext hx4
  have hz4 := hz.ext hx4
  have hxw := hx12.trans hx4
  have hsz : z < s := by omega
  have hws : w.heap.size ≤ s := by omega
  have hbs : b < s := by have := hb2.lt; omega
  have k0 : w4.cell? ⟨b, 0, none⟩ = some (.int .i64 h.kind) := hb4.cell 0
  clear c0 hb2 hz hx12 hx3 hx4 hs hk4 es ss sz
  obtain ⟨kind, set, num, mn, mx, bare⟩ := h
  simp only at *
  by_cases k2 : kind = 2
  · subst k2
    have k1 : w4.cell? ⟨b, 1, none⟩ = some (.int .u64 (wd set 0 : Int)) := hb4.cell 1
    have k2 : w4.cell? ⟨b, 2, none⟩ = some (.int .u64 (wd set 1 : Int)) := hb4.cell 2
    have k3 : w4.cell? ⟨b, 3, none⟩ = some (.int .u64 (wd set 2 : Int)) := hb4.cell 3
    have k4 : w4.cell? ⟨b, 4, none⟩ = some (.int .u64 (wd set 3 : Int)) := hb4.cell 4
    go_wp2_with (first
      | (refine wpl_storeSetIn rfl _ _ rfl rfl s _ _ set rfl rfl hs4 ?_; intro w5 hs5 hk5)
      | (refine wpl_loadNd rfl _ rfl s 0 _ _ rfl hs5.nd ?_)
      | (refine wpl_storeNd rfl _ _ rfl rfl z _ _ (.slice none 0 0) _ rfl rfl (isSl_mk _ _ _) (hz4.keep1 hk5 (by omega)) ?_; intro w6 hz6 hk6))
    exact ret_nd rfl rfl rfl hz6 ⟨rfl, (hxw.keep1 hk5 hws).keep1 hk6 hwz⟩
  by_cases k7 : kind = 7
  · subst k7
    have k6 : w4.cell? ⟨b, 6, none⟩ = some (.int .i64 num) := hb4.cell 6
    go_wp2_with (first
      | (refine wpl_storeCell rfl 3 _ _ rfl rfl s 6 (.int .i64 num) _ rfl rfl info_int1 rfl _ _ hs4 rfl ?_; intro w5 hs5 hk5; replace hs5 : Blk w5 s 27 (nodeA ⟨7, noS, num, 0, 0, false⟩ (.slice none 0 0)) := hs5)
      | (refine wpl_loadNd rfl _ rfl s 0 _ _ rfl hs5.nd ?_)
      | (refine wpl_storeNd rfl _ _ rfl rfl z _ _ (.slice none 0 0) _ rfl rfl (isSl_mk _ _ _) (hz4.keep1 hk5 (by omega)) ?_; intro w6 hz6 hk6))
    exact ret_nd rfl rfl rfl hz6 ⟨rfl, (hxw.keep1 hk5 hws).keep1 hk6 hwz⟩
  by_cases k8 : kind = 8
  · subst k8
    have k6 : w4.cell? ⟨b, 7, none⟩ = some (.int .i64 mn) := hb4.cell 7
    go_wp2_with (first
      | (refine wpl_storeCell rfl 3 _ _ rfl rfl s 7 (.int .i64 mn) _ rfl rfl info_int1 rfl _ _ hs4 rfl ?_; intro w5 hs5 hk5; replace hs5 : Blk w5 s 27 (nodeA ⟨8, noS, 0, mn, 0, false⟩ (.slice none 0 0)) := hs5; have j8 : w5.cell? ⟨b, 8, none⟩ = some (.int .i64 mx) := (hb4.keep1 hk5 (by omega)).cell 8)
      | (refine wpl_storeCell rfl 3 _ _ rfl rfl s 8 (.int .i64 mx) _ rfl rfl info_int1 rfl _ _ hs5 rfl ?_; intro w6 hs6 hk6; replace hs6 : Blk w6 s 27 (nodeA ⟨8, noS, 0, mn, mx, false⟩ (.slice none 0 0)) := hs6; have j9 : w6.cell? ⟨b, 9, none⟩ = some (.bool bare) := ((hb4.keep1 hk5 (by omega)).keep1 hk6 (by omega)).cell 9)
      | (refine wpl_storeCell rfl 4 _ _ rfl rfl s 9 (.bool bare) _ rfl rfl info_bool1 rfl _ _ hs6 rfl ?_; intro w7 hs7 hk7; replace hs7 : Blk w7 s 27 (nodeA ⟨8, noS, 0, mn, mx, bare⟩ (.slice none 0 0)) := hs7)
      | (refine wpl_loadNd rfl _ rfl s 0 _ _ rfl hs7.nd ?_)
      | (refine wpl_storeNd rfl _ _ rfl rfl z _ _ (.slice none 0 0) _ rfl rfl (isSl_mk _ _ _) (((hz4.keep1 hk5 (by omega)).keep1 hk6 (by omega)).keep1 hk7 (by omega)) ?_; intro w8 hz8 hk8))
    exact ret_nd rfl rfl rfl hz8 ⟨rfl, (((hxw.keep1 hk5 hws).keep1 hk6 hws).keep1 hk7 hws).keep1 hk8 hwz⟩
  have hu : usedH ⟨kind, set, num, mn, mx, bare⟩ = ⟨kind, noS, 0, 0, 0, false⟩ := by simp [usedH, k2, k7, k8]
  have HU := Lib.hid hu
  clear hu
  go_wp2_with (first
    | (refine wpl_loadNd rfl _ rfl s 0 _ _ rfl hs4.nd ?_)
    | (refine wpl_storeNd rfl _ _ rfl rfl z _ _ (.slice none 0 0) _ rfl rfl (isSl_mk _ _ _) hz4 ?_; intro w6 hz6 hk6))
  exact ret_nd rfl rfl rfl hz6 ⟨by rw [HU.out], hxw.keep1 hk6 hwz⟩

end Go.Proofs.YthddlhpndaffjaaDoor
