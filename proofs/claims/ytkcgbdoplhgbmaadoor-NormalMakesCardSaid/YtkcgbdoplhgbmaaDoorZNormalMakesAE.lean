/- expand.Expand and expand.Plain as contracts. Condition: the tree lies in memory, it has few nodes; the error values lie where they lie. trawlnum.Num as a contract: of nil, and of each of the 21 error values. No condition but where these lie. trawlnum.Num of what tree.Check answers; whole nodes loaded in a region whose calls make memory. No condition. trawlref04.used as a contract; one cell, or the set, stored into a node of the call's own. No condition. -/
import Derived.Test.YtkcgbdoplhgbmaaDoorZNormalMakesAD
import Derived.Test.YtkcgbdoplhgbmaaDoorZNormalMakesAC
import Derived.Test.YtkcgbdoplhgbmaaDoorZNormalMakesAA
namespace Go.Proofs.YtkcgbdoplhgbmaaDoor
open Go Go.RowKit

/-- The tree behind a call that may answer an error. -/
def resN (n : Nd) (k : Nat) : Nd := if k = 0 then n else .mk (hdV 0) []
def RetNdE (w : World) (A : Nat → Addr) (n : Nd) (k : Nat) (r : Ending) (w' : World) : Prop := ∃ sv, r = .returned (.tuple #[nodeV (resN n k).h sv, errR A k]) ∧ NdNew w.heap.size w' (resN n k) sv ∧ Ext w w'

theorem ret_nd2 {a : Act} {w : World} {fn : Func} {x y : Tmp} {R : Ending → World → Prop} {g : Nat} {h : Hd} {sv e : Value} (hr : fn.results = #[.cell x 27, .tmp y]) (hp : a.tmps.getD x undef = .pointer (some ⟨g, 0, none⟩)) (he : a.tmps.getD y undef = e) (hd : a.defers = [])
    (hB : Blk w g 27 (nodeA h sv)) (hR : R (.returned (.tuple #[nodeV h sv, e])) w) : bodyPost Tryd.prog fn R .ret a w := by
  refine bodyPost_ret (v := .tuple #[nodeV h sv, e]) ?_ hd hR
  have h1 := run_loadVar_row (P := Tryd.prog) w g 27 27 (nodeA h sv) (0, 0) _ hB Tryd.underlying27 rfl (info_ndA h sv)
  have hp' : a.tmps[x]?.getD undef = .pointer (some ⟨g, 0, none⟩) := by simpa using hp
  have he' : a.tmps[y]?.getD undef = e := by simpa using he
  simp [results, hr, hp', he', asAddr, h1, nodeV_eq]

end Go.Proofs.YtkcgbdoplhgbmaaDoor

namespace Go.Proofs.YtkcgbdoplhgbmaaDoor
open Go.RowKit

def errsC (A : Nat → Addr) : Array Value := ((List.range 21).map fun i => errV (A i)).toArray
theorem errsC_get (A : Nat → Addr) (i : Nat) (h : i < 21) : (errsC A)[i]? = some (errV (A i)) := by unfold errsC; simp [h]

theorem num_nil (w : World) : Calls Tryd.prog 18 #[.nilIface] w fun r w' => r = .returned (.int .i64 0) ∧ w = w' := by
  go_enter Tryd.func18, Tryd.ntmps18
  go_wp2
  go_ret
  exact ⟨rfl, rfl⟩

set_option maxRecDepth 100000 in
set_option maxHeartbeats 4000000 in
theorem num_err (A : Nat → Addr) (i : Nat) (w : World) (hi : i < 21) (h : ErrsAt w A) :
    Calls Tryd.prog 18 #[errV (A i)] w fun r w' => r = .returned (.int .i64 (i + 1 : Nat)) ∧ Ext w w' := by
  have H := Lib.hid h
  have v0 := h.var 0 (by omega)
  have v1 := h.var 1 (by omega)
  have v2 := h.var 2 (by omega)
  have v3 := h.var 3 (by omega)
  have v4 := h.var 4 (by omega)
  have v5 := h.var 5 (by omega)
  have v6 := h.var 6 (by omega)
  have v7 := h.var 7 (by omega)
  have v8 := h.var 8 (by omega)
  have v9 := h.var 9 (by omega)
  have v10 := h.var 10 (by omega)
  have v11 := h.var 11 (by omega)
  have v12 := h.var 12 (by omega)
  have v13 := h.var 13 (by omega)
  have v14 := h.var 14 (by omega)
  have v15 := h.var 15 (by omega)
  have v16 := h.var 16 (by omega)
  have v17 := h.var 17 (by omega)
  have v18 := h.var 18 (by omega)
  have v19 := h.var 19 (by omega)
  have v20 := h.var 20 (by omega)
  simp only [gb, gbs, List.getD_cons_zero, List.getD_cons_succ] at v0 v1 v2 v3 v4 v5 v6 v7 v8 v9 v10 v11 v12 v13 v14 v15 v16 v17 v18 v19 v20
  clear h
  unfold errV at *
  go_enter Tryd.func18, Tryd.ntmps18
  go_wp2
  have hB : Blk (w.alloc (.cells (errsC A) 32)) w.heap.size 32 (errsC A) := Blk.new w _ _
  have hx : Ext w (w.alloc (.cells (errsC A) 32)) := (Ext.refl w).alloc _
  have hE : Hid (ErrsAt (w.alloc (.cells (errsC A) 32)) A) := Lib.hid (H.out.ext hx)
  clear v0 v1 v2 v3 v4 v5 v6 v7 v8 v9 v10 v11 v12 v13 v14 v15 v16 v17 v18 v19 v20 H
  have ew : w.alloc (.cells (errsC A) 32) = w.alloc (.cells #[.iface 138 (.pointer (some (A 0))), .iface 138 (.pointer (some (A 1))), .iface 138 (.pointer (some (A 2))), .iface 138 (.pointer (some (A 3))), .iface 138 (.pointer (some (A 4))), .iface 138 (.pointer (some (A 5))), .iface 138 (.pointer (some (A 6))), .iface 138 (.pointer (some (A 7))), .iface 138 (.pointer (some (A 8))), .iface 138 (.pointer (some (A 9))), .iface 138 (.pointer (some (A 10))), .iface 138 (.pointer (some (A 11))), .iface 138 (.pointer (some (A 12))), .iface 138 (.pointer (some (A 13))), .iface 138 (.pointer (some (A 14))), .iface 138 (.pointer (some (A 15))), .iface 138 (.pointer (some (A 16))), .iface 138 (.pointer (some (A 17))), .iface 138 (.pointer (some (A 18))), .iface 138 (.pointer (some (A 19))), .iface 138 (.pointer (some (A 20)))] 32) := rfl
  rw [← ew]
  clear ew
  generalize w.alloc (.cells (errsC A) 32) = w1 at *
  generalize w.heap.size = G at *
  go_loop [4, 5, 6, 33] (fun f _ _ j => ∃ k : Nat, k ≤ 21 ∧ j = .int .i64 k ∧ f = .int .i64 (if i < k then ((i + 1 : Nat) : Int) else -1)) (fun _ _ _ j => 21 - (intOf j).toNat)
  case atStart => exact ⟨0, by omega, rfl, by rw [if_neg (by omega)]⟩
  case round =>
    obtain ⟨k, hk, rfl, rfl⟩ := hrel
    by_cases hlt : k < 21
    · have c := hB.cell k
      rw [errsC_get A k hlt] at c
      unfold errV at c
      by_cases hki : k = i
      · subst hki
        have e : (if k < k then ((k + 1 : Nat) : Int) else -1) = -1 := if_neg (by omega)
        rw [e]
        clear e
        have hS := Lib.hid (fun W => is_same (A k) W)
        unfold errV at hS
        go_wp2_with (go_at_call 63; refine (hS.out _).mono ?_; rintro e w2 ⟨rfl, rfl⟩)
        go_round
        case rel => exact ⟨k + 1, hlt, by go_num, by rw [if_pos (by omega)]; go_num⟩
        case measure => simp [intOf]; omega
      · have hO := Lib.hid (fun (W : World) (hW : W = w1) => by
          subst hW
          obtain ⟨ca, ta, ha⟩ := hE.out.blk i hi
          obtain ⟨cb, tb, hb⟩ := hE.out.blk k hlt
          exact is_other (A i) (A k) ca cb ta tb W (hE.out.ne i k hi hlt (fun e => hki e.symm)) ha hb)
        unfold errV at hO
        have e : (if i < k then ((i + 1 : Nat) : Int) else -1) = (if i < k + 1 then ((i + 1 : Nat) : Int) else -1) := by
          by_cases h : i < k
          · rw [if_pos h, if_pos (by omega)]
          · rw [if_neg h, if_neg (by omega)]
        have HE := Lib.hid e
        clear e
        generalize (if i < k then ((i + 1 : Nat) : Int) else -1) = y at *
        go_wp2_with (go_at_call 63; refine (hO.out _ rfl).mono ?_; rintro e w2 ⟨rfl, rfl⟩)
        go_round
        case rel => exact ⟨k + 1, hlt, by go_num, by rw [HE.out]⟩
        case measure => simp [intOf]; omega
    · have e : (if i < k then ((i + 1 : Nat) : Int) else -1) = ((i + 1 : Nat) : Int) := if_pos (by omega)
      rw [e]
      clear e
      go_wp2
      go_ret
      exact ⟨rfl, hx⟩

end Go.Proofs.YtkcgbdoplhgbmaaDoor

namespace Go.Proofs.YtkcgbdoplhgbmaaDoor
open Go Go.RowKit

theorem num_errR (A : Nat → Addr) (k : Nat) (w : World) (hk : k ≤ 21) (h : ErrsAt w A) :
    Calls Tryd.prog 18 #[errR A k] w fun r w' => r = .returned (.int .i64 k) ∧ Ext w w' := by
  unfold errR
  by_cases h0 : k = 0
  · subst h0
    rw [if_pos rfl]
    exact Calls.ext_of_same (num_nil w)
  · rw [if_neg h0]
    have := num_err A (k - 1) w (by omega) h
    rwa [show k - 1 + 1 = k by omega] at this
theorem chk_le (n : Nd) : chkN n ≤ 21 := by unfold chkN; split <;> (try split) <;> (try split) <;> omega
theorem small_res {n : Nd} {k : Nat} (h : k = 0 → smallN n) : smallN (resN n k) := by
  unfold resN
  split
  · rename_i h0; exact h h0
  · exact ⟨by simp, trivial⟩
theorem NdAt.plus {w : World} {g o : Nat} {h : Hd} {sv : Value} (hn : NdAt w g o h sv) (y : Ex w) : NdAt (plus w y) g o h sv := hn.ext (plus_ext w y)
/-- The load of a whole node in a region whose worlds extend w. -/
theorem wpQuiet_loadNd {ops : Array Oper} {rest : List Oper} {o : Oper} {a : Act} {w : World} {K : Act → Prop} (x : Operand) (ho : o.op = .load 27 x) (hw : Region.wanted o (yielded ops a.tmps) = true) (g k : Nat) (h : Hd) (sv : Value) (hx : a.eval x = .pointer (some ⟨g, k, none⟩)) (hN : NdAt w g k h sv)
    (hK : wpQuiet Tryd.prog ops (fun w' => ∃ y : Ex w, w' = plus w y) K rest (a.put o.dst (nodeV h sv))) : wpQuiet Tryd.prog ops (fun w' => ∃ y : Ex w, w' = plus w y) K (o :: rest) a := by
  unfold wpQuiet
  rw [if_pos hw]
  refine ⟨nodeV h sv, fun W ⟨y, hy⟩ => ?_, hK⟩
  subst hy
  have hr := run_loadAt_mid (P := Tryd.prog) (plus w y) g k 27 (nodeC h sv) _ (fun j v hv => by
    have hj : j < 10 := (List.getElem?_eq_some_iff.1 hv).1
    rw [hN.plus y j hj, hv]) Tryd.underlying27 rfl info_nd
  unfold Oper.quietAt execOp
  simp only [ho, hx, Sem.run_bind, Sem.run_pure, Result.andThen_ok, hr]
  exact ⟨rfl, rfl⟩

end Go.Proofs.YtkcgbdoplhgbmaaDoor

namespace Go.Proofs.YtkcgbdoplhgbmaaDoor
open Go Go.RowKit

section
variable {ops : Array Oper} {rest : List Oper} {o : Oper} {a : Act} {w : World} {Q : Exit → Act → World → Prop}
/-- The store of one cell of a block. -/
theorem wpl_storeCell (hgd : o.guard = none) (ty : TypeId) (x y : Operand) (ho : o.op = .store ty x y) (hd : o.dst = none) (g k : Nat) (v u : Value) (hx : a.eval x = .pointer (some ⟨g, k, none⟩)) (hy : a.eval y = v) (hi : (Tryd.prog.info? ty).map (·.size) = some 1) (h1 : v.oneCell' = true) (t : TypeId) (cs : Array Value) (hB : Blk w g t cs) (hc : cs[k]? = some u)
    (hK : ∀ w1, Blk w1 g t (cs.setIfInBounds k v) → Keeps (· = g) w w1 → wpList Tryd.prog ops Q rest a w1) : wpList Tryd.prog ops Q (o :: rest) a w := by
  have hpa : a.put o.dst undef = a := by rw [hd]; rfl
  rw [← hpa] at hK
  refine wpList_plain hgd fun _ hKK => ?_
  have hc : w.cell? ⟨g, k, none⟩ = some u := by rw [hB.cell]; exact hc
  unfold Oper.wp execOp
  simp only [ho, hx, hy, Instr.storeAt, Instr.sureAddr, Sem.run_bind, Sem.run_pure, Result.andThen_ok, run_storeVar_cell (P := Tryd.prog) w g k ty v u hc (hB.frozen k) hi h1]
  exact hKK _ _ (hK _ (hB.set k _) ((Keeps.refl (· = g) w).setCell (.inr rfl) _))
theorem info_set4 (p : Nat → Bool) : (Tryd.prog.info? 24).map (·.size) = some (#[Value.int .u64 (wd p 0 : Int), .int .u64 (wd p 1 : Int), .int .u64 (wd p 2 : Int), .int .u64 (wd p 3 : Int)] : Array Value).size := by kernel_rfl
/-- The store of a node's set. -/
theorem wpl_storeSetIn (hgd : o.guard = none) (x y : Operand) (ho : o.op = .store 24 x y) (hd : o.dst = none) (g : Nat) (h : Hd) (sv : Value) (p : Nat → Bool) (hx : a.eval x = .pointer (some ⟨g, 1, none⟩)) (hy : a.eval y = .agg #[.int .u64 (wd p 0 : Int), .int .u64 (wd p 1 : Int), .int .u64 (wd p 2 : Int), .int .u64 (wd p 3 : Int)]) (hB : Blk w g 27 (nodeA h sv))
    (hK : ∀ w1, Blk w1 g 27 (nodeA { h with set := p } sv) → Keeps (· = g) w w1 → wpList Tryd.prog ops Q rest a w1) : wpList Tryd.prog ops Q (o :: rest) a w := by
  have hpa : a.put o.dst undef = a := by rw [hd]; rfl
  rw [← hpa] at hK
  have hs : w.setCells g 1 [.int .u64 (wd p 0 : Int), .int .u64 (wd p 1 : Int), .int .u64 (wd p 2 : Int), .int .u64 (wd p 3 : Int)] = (((w.setCell ⟨g, 1, none⟩ (.int .u64 (wd p 0 : Int))).setCell ⟨g, 2, none⟩ (.int .u64 (wd p 1 : Int))).setCell ⟨g, 3, none⟩ (.int .u64 (wd p 2 : Int))).setCell ⟨g, 4, none⟩ (.int .u64 (wd p 3 : Int)) := rfl
  refine wpList_store_mid hgd 24 x y ho g 1 _ hx hy (fun i hi => ⟨?_, hB.frozen _⟩) (info_set4 p) (by simp [Value.oneCell']) (hK _ ?_ ?_)
  · have hi4 : i < 4 := hi
    rw [hB.cell, nodeA_get]
    rcases (show i = 0 ∨ i = 1 ∨ i = 2 ∨ i = 3 from by omega) with rfl | rfl | rfl | rfl <;> rfl
  · rw [hs]
    exact (((hB.set 1 _).set 2 _).set 3 _).set 4 _
  · rw [hs]
    exact ((((Keeps.refl (· = g) w).setCell (.inr rfl) _).setCell (.inr rfl) _).setCell (.inr rfl) _).setCell (.inr rfl) _
end
theorem info_int1 : (Tryd.prog.info? 3).map (·.size) = some 1 := by kernel_rfl
theorem info_bool1 : (Tryd.prog.info? 4).map (·.size) = some 1 := by kernel_rfl

/-- A node with nothing but what its kind uses. -/
def usedH (h : Hd) : Hd := ⟨h.kind, if h.kind = 2 then h.set else noS, if h.kind = 7 then h.num else 0, if h.kind = 8 then h.min else 0, if h.kind = 8 then h.max else 0, if h.kind = 8 then h.bare else false⟩

set_option maxRecDepth 100000 in
set_option maxHeartbeats 4000000 in
theorem used_any (h : Hd) (sv : Value) (hsv : isSl sv) (w : World) :
    Calls Tryd.prog 109 #[nodeV h sv] w fun r w' => r = .returned (nodeV (usedH h) (.slice none 0 0)) ∧ Ext w w' := by
  obtain ⟨A, len, c, rfl⟩ := hsv
  go_enter Tryd.func109, Tryd.ntmps109
  go_upto_region 1 with (first
    | (refine wpl_boxNd rfl _ rfl h _ rfl ?_; intro b w1 hb hx1 eb sb)
    | (refine wpl_allocNd rfl rfl ?_; intro z w2 hz hx2 ez sz))
  have hb2 := hb.ext hx2
  have hx12 := hx1.trans hx2
  have c0 : w2.cell? ⟨b, 0, none⟩ = some (.int .i64 h.kind) := hb2.cell 0
  have hwz : w.heap.size ≤ z := by omega
  clear hb hx1 hx2 eb sb ez
  go_upto_region 2 with (first
    | (refine wpl_allocNd rfl rfl ?_; intro s w3 hs hx3 es ss)
    | (refine wpl_storeNd rfl _ _ rfl rfl s ⟨h.kind, noS, 0, 0, 0, false⟩ _ (.slice none 0 0) _ rfl (node_lit _ _ _ _ _ _) (isSl_mk _ _ _) hs ?_; intro w4 hs4 hk4))
  have hx4 := hx3.keep1 hk4 es
  have hb4 := hb2.ext hx4
  have hz4 := hz.ext hx4
  have hxw := hx12.trans hx4
  have hsz : z < s := by omega
  have hws : w.heap.size ≤ s := by omega
  have hbs : b < s := by have := hb2.lt; omega
  have k0 : w4.cell? ⟨b, 0, none⟩ = some (.int .i64 h.kind) := hb4.cell 0
  clear c0 hb2 hz hx12 hx3 hx4 hs hk4 es ss sz
  obtain ⟨kind, set, num, mn, mx, bare⟩ := h
  simp only at *
  by_cases k2 : kind = 2
  · subst k2
    have k1 : w4.cell? ⟨b, 1, none⟩ = some (.int .u64 (wd set 0 : Int)) := hb4.cell 1
    have k2 : w4.cell? ⟨b, 2, none⟩ = some (.int .u64 (wd set 1 : Int)) := hb4.cell 2
    have k3 : w4.cell? ⟨b, 3, none⟩ = some (.int .u64 (wd set 2 : Int)) := hb4.cell 3
    have k4 : w4.cell? ⟨b, 4, none⟩ = some (.int .u64 (wd set 3 : Int)) := hb4.cell 4
    go_wp2_with (first
      | (refine wpl_storeSetIn rfl _ _ rfl rfl s _ _ set rfl rfl hs4 ?_; intro w5 hs5 hk5)
      | (refine wpl_loadNd rfl _ rfl s 0 _ _ rfl hs5.nd ?_)
      | (refine wpl_storeNd rfl _ _ rfl rfl z _ _ (.slice none 0 0) _ rfl rfl (isSl_mk _ _ _) (hz4.keep1 hk5 (by omega)) ?_; intro w6 hz6 hk6))
    exact ret_nd rfl rfl rfl hz6 ⟨rfl, (hxw.keep1 hk5 hws).keep1 hk6 hwz⟩
  by_cases k7 : kind = 7
  · subst k7
    have k6 : w4.cell? ⟨b, 6, none⟩ = some (.int .i64 num) := hb4.cell 6
    go_wp2_with (first
      | (refine wpl_storeCell rfl 3 _ _ rfl rfl s 6 (.int .i64 num) _ rfl rfl info_int1 rfl _ _ hs4 rfl ?_; intro w5 hs5 hk5; replace hs5 : Blk w5 s 27 (nodeA ⟨7, noS, num, 0, 0, false⟩ (.slice none 0 0)) := hs5)
      | (refine wpl_loadNd rfl _ rfl s 0 _ _ rfl hs5.nd ?_)
      | (refine wpl_storeNd rfl _ _ rfl rfl z _ _ (.slice none 0 0) _ rfl rfl (isSl_mk _ _ _) (hz4.keep1 hk5 (by omega)) ?_; intro w6 hz6 hk6))
    exact ret_nd rfl rfl rfl hz6 ⟨rfl, (hxw.keep1 hk5 hws).keep1 hk6 hwz⟩
  by_cases k8 : kind = 8
  · subst k8
    have k6 : w4.cell? ⟨b, 7, none⟩ = some (.int .i64 mn) := hb4.cell 7
    go_wp2_with (first
      | (refine wpl_storeCell rfl 3 _ _ rfl rfl s 7 (.int .i64 mn) _ rfl rfl info_int1 rfl _ _ hs4 rfl ?_; intro w5 hs5 hk5; replace hs5 : Blk w5 s 27 (nodeA ⟨8, noS, 0, mn, 0, false⟩ (.slice none 0 0)) := hs5; have j8 : w5.cell? ⟨b, 8, none⟩ = some (.int .i64 mx) := (hb4.keep1 hk5 (by omega)).cell 8)
      | (refine wpl_storeCell rfl 3 _ _ rfl rfl s 8 (.int .i64 mx) _ rfl rfl info_int1 rfl _ _ hs5 rfl ?_; intro w6 hs6 hk6; replace hs6 : Blk w6 s 27 (nodeA ⟨8, noS, 0, mn, mx, false⟩ (.slice none 0 0)) := hs6; have j9 : w6.cell? ⟨b, 9, none⟩ = some (.bool bare) := ((hb4.keep1 hk5 (by omega)).keep1 hk6 (by omega)).cell 9)
      | (refine wpl_storeCell rfl 4 _ _ rfl rfl s 9 (.bool bare) _ rfl rfl info_bool1 rfl _ _ hs6 rfl ?_; intro w7 hs7 hk7; replace hs7 : Blk w7 s 27 (nodeA ⟨8, noS, 0, mn, mx, bare⟩ (.slice none 0 0)) := hs7)
      | (refine wpl_loadNd rfl _ rfl s 0 _ _ rfl hs7.nd ?_)
      | (refine wpl_storeNd rfl _ _ rfl rfl z _ _ (.slice none 0 0) _ rfl rfl (isSl_mk _ _ _) (((hz4.keep1 hk5 (by omega)).keep1 hk6 (by omega)).keep1 hk7 (by omega)) ?_; intro w8 hz8 hk8))
    exact ret_nd rfl rfl rfl hz8 ⟨rfl, (((hxw.keep1 hk5 hws).keep1 hk6 hws).keep1 hk7 hws).keep1 hk8 hwz⟩
  have hu : usedH ⟨kind, set, num, mn, mx, bare⟩ = ⟨kind, noS, 0, 0, 0, false⟩ := by simp [usedH, k2, k7, k8]
  have HU := Lib.hid hu
  clear hu
  go_wp2_with (first
    | (refine wpl_loadNd rfl _ rfl s 0 _ _ rfl hs4.nd ?_)
    | (refine wpl_storeNd rfl _ _ rfl rfl z _ _ (.slice none 0 0) _ rfl rfl (isSl_mk _ _ _) hz4 ?_; intro w6 hz6 hk6))
  exact ret_nd rfl rfl rfl hz6 ⟨by rw [HU.out], hxw.keep1 hk6 hwz⟩

end Go.Proofs.YtkcgbdoplhgbmaaDoor
