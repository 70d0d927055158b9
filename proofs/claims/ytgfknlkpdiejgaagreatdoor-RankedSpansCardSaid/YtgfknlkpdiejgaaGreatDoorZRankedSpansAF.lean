/- Whole nodes loaded in a region's quiet head; two sets compared; a world that has drawn. No condition. trawlref04.used as a contract; one cell, or the set, stored into a node of the call's own. No condition. trawlref04's form in plain words: what it asks of a node is what tree asks. No program. trawlref04.Form as a contract. Condition: the tree lies in memory, its lists are short. -/
import Derived.Test.YtgfknlkpdiejgaaGreatDoorZRankedSpansAE
import Derived.Test.YtgfknlkpdiejgaaGreatDoorZRankedSpansAC
import Derived.StillTailTactics
namespace Go.Proofs.YtgfknlkpdiejgaaGreatDoor
open Go Go.RowKit

/-- The load of a whole node in a region's quiet head. -/
theorem wpStill_loadNd {ops : Array Oper} {rest : List Oper} {o : Oper} {a : Act} {w : World} {Q : Act → Prop} (x : Operand) (ho : o.op = .load 27 x) (hw : Region.wanted o (yielded ops a.tmps) = true) (g k : Nat) (h : Hd) (sv : Value) (hx : a.eval x = .pointer (some ⟨g, k, none⟩)) (hN : NdAt w g k h sv)
    (hK : wpStill Tryz.prog ops w Q rest (a.put o.dst (nodeV h sv))) : wpStill Tryz.prog ops w Q (o :: rest) a := by
  unfold wpStill
  rw [if_pos hw]
  have hr := run_loadAt_mid (P := Tryz.prog) w g k 27 (nodeC h sv) _ (fun j v hv => by
    have hj : j < 10 := (List.getElem?_eq_some_iff.1 hv).1
    rw [hN j hj, hv]) Tryz.underlying27 rfl info_nd
  unfold Oper.still execOp
  simp only [ho, hx, Sem.run_bind, Sem.run_pure, Result.andThen_ok, hr]
  rw [Oper.stillUpon_value]
  exact hK
theorem neq_set (p q : Nat → Bool) (w : World) :
    (binOp .neq 24 (.agg #[.int .u64 (wd p 0 : Int), .int .u64 (wd p 1 : Int), .int .u64 (wd p 2 : Int), .int .u64 (wd p 3 : Int)]) (.agg #[.int .u64 (wd q 0 : Int), .int .u64 (wd q 1 : Int), .int .u64 (wd q 2 : Int), .int .u64 (wd q 3 : Int)])).run Tryz.prog w = .ok (.bool (!wordsB p q)) w := neq_words _ _ _ _ _ _ _ _ w
theorem NdAt.drew {w : World} {g o : Nat} {h : Hd} {sv : Value} (hn : NdAt w g o h sv) : NdAt w.drew g o h sv := fun i hi => hn i hi
theorem Ext.drewr {w w' : World} (h : Ext w w') : Ext w w'.drew := h.trans (Ext.drew (Ext.refl w'))

end Go.Proofs.YtgfknlkpdiejgaaGreatDoor

namespace Go.Proofs.YtgfknlkpdiejgaaGreatDoor
open Go Go.RowKit

section
variable {ops : Array Oper} {rest : List Oper} {o : Oper} {a : Act} {w : World} {Q : Exit → Act → World → Prop}
/-- The store of one cell of a block. -/
theorem wpl_storeCell (hgd : o.guard = none) (ty : TypeId) (x y : Operand) (ho : o.op = .store ty x y) (hd : o.dst = none) (g k : Nat) (v u : Value) (hx : a.eval x = .pointer (some ⟨g, k, none⟩)) (hy : a.eval y = v) (hi : (Tryz.prog.info? ty).map (·.size) = some 1) (h1 : v.oneCell' = true) (t : TypeId) (cs : Array Value) (hB : Blk w g t cs) (hc : cs[k]? = some u)
    (hK : ∀ w1, Blk w1 g t (cs.setIfInBounds k v) → Keeps (· = g) w w1 → wpList Tryz.prog ops Q rest a w1) : wpList Tryz.prog ops Q (o :: rest) a w := by
  have hpa : a.put o.dst undef = a := by rw [hd]; rfl
  rw [← hpa] at hK
  refine wpList_plain hgd fun _ hKK => ?_
  have hc : w.cell? ⟨g, k, none⟩ = some u := by rw [hB.cell]; exact hc
  unfold Oper.wp execOp
  simp only [ho, hx, hy, Instr.storeAt, Instr.sureAddr, Sem.run_bind, Sem.run_pure, Result.andThen_ok, run_storeVar_cell (P := Tryz.prog) w g k ty v u hc (hB.frozen k) hi h1]
  exact hKK _ _ (hK _ (hB.set k _) ((Keeps.refl (· = g) w).setCell (.inr rfl) _))
theorem info_set4 (p : Nat → Bool) : (Tryz.prog.info? 24).map (·.size) = some (#[Value.int .u64 (wd p 0 : Int), .int .u64 (wd p 1 : Int), .int .u64 (wd p 2 : Int), .int .u64 (wd p 3 : Int)] : Array Value).size := by kernel_rfl
/-- The store of a node's set. -/
theorem wpl_storeSetIn (hgd : o.guard = none) (x y : Operand) (ho : o.op = .store 24 x y) (hd : o.dst = none) (g : Nat) (h : Hd) (sv : Value) (p : Nat → Bool) (hx : a.eval x = .pointer (some ⟨g, 1, none⟩)) (hy : a.eval y = .agg #[.int .u64 (wd p 0 : Int), .int .u64 (wd p 1 : Int), .int .u64 (wd p 2 : Int), .int .u64 (wd p 3 : Int)]) (hB : Blk w g 27 (nodeA h sv))
    (hK : ∀ w1, Blk w1 g 27 (nodeA { h with set := p } sv) → Keeps (· = g) w w1 → wpList Tryz.prog ops Q rest a w1) : wpList Tryz.prog ops Q (o :: rest) a w := by
  have hpa : a.put o.dst undef = a := by rw [hd]; rfl
  rw [← hpa] at hK
  have hs : w.setCells g 1 [.int .u64 (wd p 0 : Int), .int .u64 (wd p 1 : Int), .int .u64 (wd p 2 : Int), .int .u64 (wd p 3 : Int)] = (((w.setCell ⟨g, 1, none⟩ (.int .u64 (wd p 0 : Int))).setCell ⟨g, 2, none⟩ (.int .u64 (wd p 1 : Int))).setCell ⟨g, 3, none⟩ (.int .u64 (wd p 2 : Int))).setCell ⟨g, 4, none⟩ (.int .u64 (wd p 3 : Int)) := rfl
  refine wpList_store_mid hgd 24 x y ho g 1 _ hx hy (fun i hi => ⟨?_, hB.frozen _⟩) (info_set4 p) (by simp [Value.oneCell']) (hK _ ?_ ?_)
  · have hi4 : i < 4 := hi
    rw [hB.cell, nodeA_get]
    rcases (show i = 0 ∨ i = 1 ∨ i = 2 ∨ i = 3 from by omega) with rfl | rfl | rfl | rfl <;> rfl
  · rw [hs]
    exact (((hB.set 1 _).set 2 _).set 3 _).set 4 _
  · rw [hs]
    exact ((((Keeps.refl (· = g) w).setCell (.inr rfl) _).setCell (.inr rfl) _).setCell (.inr rfl) _).setCell (.inr rfl) _
end
theorem info_int1 : (Tryz.prog.info? 3).map (·.size) = some 1 := by kernel_rfl
theorem info_bool1 : (Tryz.prog.info? 4).map (·.size) = some 1 := by kernel_rfl

/-- A node with nothing but what its kind uses. -/
def usedH (h : Hd) : Hd := ⟨h.kind, if h.kind = 2 then h.set else noS, if h.kind = 7 then h.num else 0, if h.kind = 8 then h.min else 0, if h.kind = 8 then h.max else 0, if h.kind = 8 then h.bare else false⟩

set_option maxRecDepth 100000 in
set_option maxHeartbeats 4000000 in
theorem used_any (h : Hd) (sv : Value) (hsv : isSl sv) (w : World) :
    Calls Tryz.prog 66 #[nodeV h sv] w fun r w' => r = .returned (nodeV (usedH h) (.slice none 0 0)) ∧ Ext w w' := by
  obtain ⟨A, len, c, rfl⟩ := hsv
  go_enter Tryz.func66, Tryz.ntmps66
  go_upto_region 1 with (first
    | (refine wpl_boxNd rfl _ rfl h _ rfl ?_; intro b w1 hb hx1 eb sb)
    | (refine wpl_allocNd rfl rfl ?_; intro z w2 hz hx2 ez sz))
  have hb2 := hb.ext hx2
  have hx12 := hx1.trans hx2
  have c0 : w2.cell? ⟨b, 0, none⟩ = some (.int .i64 h.kind) := hb2.cell 0
  have hwz : w.heap.size ≤ z := by omega
  clear hb hx1 hx2 eb sb ez
  go_upto_region 2 with (first
    | (refine wpl_allocNd rfl rfl ?_; intro s w3 hs hx3 es ss)
    | (refine wpl_storeNd rfl _ _ rfl rfl s ⟨h.kind, noS, 0, 0, 0, false⟩ _ (.slice none 0 0) _ rfl (node_lit _ _ _ _ _ _) (isSl_mk _ _ _) hs ?_; intro w4 hs4 hk4))
  have hx4 := hx3.keep1 hk4 es
  have hb4 := hb2.ext hx4
  have hz4 := hz.ext hx4
  have hxw := hx12.trans hx4
  have hsz : z < s := by omega
  have hws : w.heap.size ≤ s := by omega
  have hbs : b < s := by have := hb2.lt; omega
  have k0 : w4.cell? ⟨b, 0, none⟩ = some (.int .i64 h.kind) := hb4.cell 0
  clear c0 hb2 hz hx12 hx3 hx4 hs hk4 es ss sz
  obtain ⟨kind, set, num, mn, mx, bare⟩ := h
  simp only at *
  by_cases k2 : kind = 2
  · subst k2
    have k1 : w4.cell? ⟨b, 1, none⟩ = some (.int .u64 (wd set 0 : Int)) := hb4.cell 1
    have k2 : w4.cell? ⟨b, 2, none⟩ = some (.int .u64 (wd set 1 : Int)) := hb4.cell 2
    have k3 : w4.cell? ⟨b, 3, none⟩ = some (.int .u64 (wd set 2 : Int)) := hb4.cell 3
    have k4 : w4.cell? ⟨b, 4, none⟩ = some (.int .u64 (wd set 3 : Int)) := hb4.cell 4
    go_wp2_with (first
      | (refine wpl_storeSetIn rfl _ _ rfl rfl s _ _ set rfl rfl hs4 ?_; intro w5 hs5 hk5)
      | (refine wpl_loadNd rfl _ rfl s 0 _ _ rfl hs5.nd ?_)
      | (refine wpl_storeNd rfl _ _ rfl rfl z _ _ (.slice none 0 0) _ rfl rfl (isSl_mk _ _ _) (hz4.keep1 hk5 (by omega)) ?_; intro w6 hz6 hk6))
    exact ret_nd rfl rfl rfl hz6 ⟨rfl, (hxw.keep1 hk5 hws).keep1 hk6 hwz⟩
  by_cases k7 : kind = 7
  · subst k7
    have k6 : w4.cell? ⟨b, 6, none⟩ = some (.int .i64 num) := hb4.cell 6
    go_wp2_with (first
      | (refine wpl_storeCell rfl 3 _ _ rfl rfl s 6 (.int .i64 num) _ rfl rfl info_int1 rfl _ _ hs4 rfl ?_; intro w5 hs5 hk5; replace hs5 : Blk w5 s 27 (nodeA ⟨7, noS, num, 0, 0, false⟩ (.slice none 0 0)) := hs5)
      | (refine wpl_loadNd rfl _ rfl s 0 _ _ rfl hs5.nd ?_)
      | (refine wpl_storeNd rfl _ _ rfl rfl z _ _ (.slice none 0 0) _ rfl rfl (isSl_mk _ _ _) (hz4.keep1 hk5 (by omega)) ?_; intro w6 hz6 hk6))
    exact ret_nd rfl rfl rfl hz6 ⟨rfl, (hxw.keep1 hk5 hws).keep1 hk6 hwz⟩
  by_cases k8 : kind = 8
  · subst k8
    have k6 : w4.cell? ⟨b, 7, none⟩ = some (.int .i64 mn) := hb4.cell 7
    go_wp2_with (first
      | (refine wpl_storeCell rfl 3 _ _ rfl rfl s 7 (.int .i64 mn) _ rfl rfl info_int1 rfl _ _ hs4 rfl ?_; intro w5 hs5 hk5; replace hs5 : Blk w5 s 27 (nodeA ⟨8, noS, 0, mn, 0, false⟩ (.slice none 0 0)) := hs5; have j8 : w5.cell? ⟨b, 8, none⟩ = some (.int .i64 mx) := (hb4.keep1 hk5 (by omega)).cell 8)
      | (refine wpl_storeCell rfl 3 _ _ rfl rfl s 8 (.int .i64 mx) _ rfl rfl info_int1 rfl _ _ hs5 rfl ?_; intro w6 hs6 hk6; replace hs6 : Blk w6 s 27 (nodeA ⟨8, noS, 0, mn, mx, false⟩ (.slice none 0 0)) := hs6; have j9 : w6.cell? ⟨b, 9, none⟩ = some (.bool bare) := ((hb4.keep1 hk5 (by omega)).keep1 hk6 (by omega)).cell 9)
      | (refine wpl_storeCell rfl 4 _ _ rfl rfl s 9 (.bool bare) _ rfl rfl info_bool1 rfl _ _ hs6 rfl ?_; intro w7 hs7 hk7; replace hs7 : Blk w7 s 27 (nodeA ⟨8, noS, 0, mn, mx, bare⟩ (.slice none 0 0)) := hs7)
      | (refine wpl_loadNd rfl _ rfl s 0 _ _ rfl hs7.nd ?_)
      | (refine wpl_storeNd rfl _ _ rfl rfl z _ _ (.slice none 0 0) _ rfl rfl (isSl_mk _ _ _) (((hz4.keep1 hk5 (by omega)).keep1 hk6 (by omega)).keep1 hk7 (by omega)) ?_; intro w8 hz8 hk8))
    exact ret_nd rfl rfl rfl hz8 ⟨rfl, (((hxw.keep1 hk5 hws).keep1 hk6 hws).keep1 hk7 hws).keep1 hk8 hwz⟩
  have hu : usedH ⟨kind, set, num, mn, mx, bare⟩ = ⟨kind, noS, 0, 0, 0, false⟩ := by simp [usedH, k2, k7, k8]
  have HU := Lib.hid hu
  clear hu
  go_wp2_with (first
    | (refine wpl_loadNd rfl _ rfl s 0 _ _ rfl hs4.nd ?_)
    | (refine wpl_storeNd rfl _ _ rfl rfl z _ _ (.slice none 0 0) _ rfl rfl (isSl_mk _ _ _) hz4 ?_; intro w6 hz6 hk6))
  exact ret_nd rfl rfl rfl hz6 ⟨by rw [HU.out], hxw.keep1 hk6 hwz⟩

end Go.Proofs.YtgfknlkpdiejgaaGreatDoor

namespace Go.Proofs.YtgfknlkpdiejgaaGreatDoor

def usedB (h : Hd) : Bool := decide (1 ≤ h.kind) && decide (h.kind ≤ 8) && wordsB h.set (usedH h).set && decide (h.num = (usedH h).num) && decide (h.min = (usedH h).min) && decide (h.max = (usedH h).max) && (h.bare == (usedH h).bare)
def swB (h : Hd) (len : Nat) : Bool :=
  if h.kind = 5 ∨ h.kind = 6 then decide (2 ≤ len)
  else if h.kind = 7 then decide (len = 1) && decide (1 ≤ h.num) && decide (h.num ≤ 999)
  else if h.kind = 8 then decide (len = 1) && decide (0 ≤ h.min) && decide (h.min ≤ 255) && decide (-1 ≤ h.max) && decide (h.max ≤ 255) && !(decide (0 ≤ h.max) && decide (h.max < h.min)) && !(h.bare && decide (h.min ≠ 0))
  else decide (len = 0)
theorem words_zero (p : Nat → Bool) : wordsB p noS = zeroS p := by
  unfold wordsB zeroS
  have : ∀ i, wd noS i = 0 := fun i => wd_none i
  simp [this]
theorem used_formed (h : Hd) (len : Nat) : (usedB h && swB h len) = formedB h len := by
  obtain ⟨kind, set, num, mn, mx, bare⟩ := h
  by_cases hr : 1 ≤ kind ∧ kind ≤ 8
  · obtain ⟨h1, h8⟩ := hr
    rcases (show kind = 1 ∨ kind = 2 ∨ kind = 3 ∨ kind = 4 ∨ kind = 5 ∨ kind = 6 ∨ kind = 7 ∨ kind = 8 from by omega) with rfl | rfl | rfl | rfl | rfl | rfl | rfl | rfl
    case inr.inr.inr.inr.inr.inr.inr =>
      have e : formedB ⟨8, set, num, mn, mx, bare⟩ len = (zeroS set && decide (num = 0) && decide (len = 1) && decide (0 ≤ mn) && decide (mn ≤ 255) && !(bare && decide (0 < mn)) && (decide (mx = -1) || decide (mn ≤ mx) && decide (mx ≤ 255))) := rfl
      have e2 : usedB ⟨8, set, num, mn, mx, bare⟩ = (wordsB set noS && decide (num = 0)) := by simp [usedB, usedH]
      have e3 : swB ⟨8, set, num, mn, mx, bare⟩ len = (decide (len = 1) && decide (0 ≤ mn) && decide (mn ≤ 255) && decide (-1 ≤ mx) && decide (mx ≤ 255) && !(decide (0 ≤ mx) && decide (mx < mn)) && !(bare && decide (mn ≠ 0))) := rfl
      rw [e, e2, e3, words_zero, Bool.eq_iff_iff]
      cases zeroS set <;> cases bare <;> simp only [Bool.and_eq_true, Bool.or_eq_true, Bool.not_eq_true', Bool.and_eq_false_iff, decide_eq_true_eq, decide_eq_false_iff_not, Bool.false_and, Bool.true_and, Bool.not_false, Bool.and_true, Bool.false_eq_true] <;> omega
    all_goals
      simp [usedB, usedH, swB, formedB, plainB, words_zero, wordsB_refl]
      try (rw [Bool.eq_iff_iff]; cases zeroS set <;> cases bare <;> simp <;> omega)
  · have hu : usedB ⟨kind, set, num, mn, mx, bare⟩ = false := by
      rw [usedB]
      by_cases h1 : 1 ≤ kind
      · have h8 : ¬ kind ≤ 8 := by omega
        simp [h8]
      · simp [h1]
    rw [hu, Bool.false_and]
    unfold formedB
    simp only
    rw [if_neg (by omega), if_neg (by omega), if_neg (by omega), if_neg (by omega), if_neg (by omega)]

end Go.Proofs.YtgfknlkpdiejgaaGreatDoor

namespace Go.Proofs.YtgfknlkpdiejgaaGreatDoor
open Go Go.RowKit

set_option maxRecDepth 100000 in
set_option maxHeartbeats 8000000 in
theorem form04_any : ∀ (n : Nd) (sv : Value) (w : World), NdOk w n sv → smallN n →
    Calls Tryz.prog 40 #[nodeV n.h sv] w fun r w' => r = .returned (.bool (formB n)) ∧ Ext w w' := by
  refine Nd.ind fun hd subs ih sv w hn hsm => ?_
  obtain ⟨A, c, rfl⟩ := hn.shape
  obtain ⟨hlen, hsm⟩ := hsm
  have IH := Lib.hid (fun n hm sv w hn => ih n hm sv w hn (smallL_mem hsm n hm))
  have HN := Lib.hid hn
  have HR := Lib.hid (by rw [formB, ← used_formed] : formB (.mk hd subs) = ((usedB hd && swB hd subs.length) && formL subs))
  have HU := Lib.hid (fun W => used_any hd (.slice A subs.length c) (isSl_mk _ _ _) W)
  clear ih hsm hn
  generalize formB (.mk hd subs) = res at *
  simp only [Nd.h, Nd.subs] at *
  go_enter Tryz.func40, Tryz.ntmps40
  go_upto_region 2 with (first
    | (refine wpl_boxNd rfl _ rfl hd _ rfl ?_; intro b w1 hb hx1 eb sb)
    | (refine wpl_loadNd rfl _ rfl b 0 hd _ rfl hb.nd ?_)
    | (go_at_call 66; refine (HU.out _).mono ?_; rintro e w2 ⟨rfl, hx2⟩)
    | (refine wpl_allocNd rfl rfl ?_; intro s w3 hs hx3 es ss)
    | (refine wpl_storeNd rfl _ _ rfl rfl s (usedH hd) _ _ _ rfl rfl (isSl_mk _ _ _) hs ?_; intro w4 hs4 hk4))
  have hx4 := hx2.trans (hx3.keep1 hk4 es)
  have hxw := hx1.trans hx4
  have hb4 := hb.ext hx4
  have c5 : w4.cell? ⟨b, 5, none⟩ = some (.slice A subs.length c) := hb4.cell 5
  clear HU hb hx1 hx2 hx3 hs hk4 es ss eb sb hx4
  simp only [Act.put, List.setIfInBounds_toArray, List.set_cons_succ, List.set_cons_zero]
  go_cut [51] (fun v wx => v = .bool (!usedB hd) ∧ w4 = wx)
  case first =>
    have c0 : w4.cell? ⟨b, 0, none⟩ = some (.int .i64 hd.kind) := hb4.cell 0
    have c1 : w4.cell? ⟨b, 1, none⟩ = some (.int .u64 (wd hd.set 0 : Int)) := hb4.cell 1
    have c2 : w4.cell? ⟨b, 2, none⟩ = some (.int .u64 (wd hd.set 1 : Int)) := hb4.cell 2
    have c3 : w4.cell? ⟨b, 3, none⟩ = some (.int .u64 (wd hd.set 2 : Int)) := hb4.cell 3
    have c4 : w4.cell? ⟨b, 4, none⟩ = some (.int .u64 (wd hd.set 3 : Int)) := hb4.cell 4
    have c6 : w4.cell? ⟨b, 6, none⟩ = some (.int .i64 hd.num) := hb4.cell 6
    have c7 : w4.cell? ⟨b, 7, none⟩ = some (.int .i64 hd.min) := hb4.cell 7
    have c8 : w4.cell? ⟨b, 8, none⟩ = some (.int .i64 hd.max) := hb4.cell 8
    have c9 : w4.cell? ⟨b, 9, none⟩ = some (.bool hd.bare) := hb4.cell 9
    have d1 : w4.cell? ⟨s, 1, none⟩ = some (.int .u64 (wd (usedH hd).set 0 : Int)) := hs4.cell 1
    have d2 : w4.cell? ⟨s, 2, none⟩ = some (.int .u64 (wd (usedH hd).set 1 : Int)) := hs4.cell 2
    have d3 : w4.cell? ⟨s, 3, none⟩ = some (.int .u64 (wd (usedH hd).set 2 : Int)) := hs4.cell 3
    have d4 : w4.cell? ⟨s, 4, none⟩ = some (.int .u64 (wd (usedH hd).set 3 : Int)) := hs4.cell 4
    have d6 : w4.cell? ⟨s, 6, none⟩ = some (.int .i64 (usedH hd).num) := hs4.cell 6
    have d7 : w4.cell? ⟨s, 7, none⟩ = some (.int .i64 (usedH hd).min) := hs4.cell 7
    have d8 : w4.cell? ⟨s, 8, none⟩ = some (.int .i64 (usedH hd).max) := hs4.cell 8
    have d9 : w4.cell? ⟨s, 9, none⟩ = some (.bool (usedH hd).bare) := hs4.cell 9
    have hne := neq_set hd.set (usedH hd).set
    have hS := Lib.hid (show usedB hd = (decide (1 ≤ hd.kind) && decide (hd.kind ≤ 8) && wordsB hd.set (usedH hd).set && decide (hd.num = (usedH hd).num) && decide (hd.min = (usedH hd).min) && decide (hd.max = (usedH hd).max) && (hd.bare == (usedH hd).bare)) from rfl)
    clear HR IH HN hb4 hs4 hxw
    generalize usedB hd = sh at *
    generalize (usedH hd).num = n2 at *
    generalize (usedH hd).min = m2 at *
    generalize (usedH hd).max = x2 at *
    generalize (usedH hd).bare = b2 at *
    generalize hd.kind = k1 at *
    generalize hd.num = n1 at *
    generalize hd.min = m1 at *
    generalize hd.max = x1 at *
    generalize hd.bare = b1 at *
    generalize wordsB hd.set (usedH hd).set = ws at *
    by_cases t0 : k1 < 1
    case' neg =>
      by_cases t1 : 8 < k1
      case' neg =>
        cases ws
        case' true =>
          by_cases t3 : n1 = n2
          case' neg => have e1 : (n1 != n2) = true := by simpa using t3
          case' pos =>
            subst t3
            by_cases t4 : m1 = m2
            case' neg => have e1 : (m1 != m2) = true := by simpa using t4
            case' pos =>
              subst t4
              by_cases t5 : x1 = x2
              case' neg => have e1 : (x1 != x2) = true := by simpa using t5
              case' pos =>
                subst t5
                cases b1 <;> cases b2
    all_goals
      have hq := Lib.hid (show (decide (1 ≤ k1) = !decide (k1 < 1)) ∧ (decide (k1 ≤ 8) = !decide (8 < k1)) from ⟨by rw [Bool.eq_iff_iff]; simp, by rw [Bool.eq_iff_iff]; simp⟩)
      go_wp2
      all_goals
        go_meet
        case rel => exact ⟨by rw [hS.out, hq.out.1, hq.out.2]; first | (simp; done) | (simp [*]; done), rfl⟩
  obtain ⟨rfl, rfl⟩ := hcut
  clear hs4
  cases hS : usedB hd
  · have HR2 := Lib.hid (show res = false by rw [HR.out, hS, Bool.false_and, Bool.false_and])
    clear HR IH HN hS
    go_wp2
    go_ret
    exact ⟨by rw [HR2.out]; rfl, hxw⟩
  rw [hS, Bool.true_and] at HR
  have hkk : 1 ≤ hd.kind ∧ hd.kind ≤ 8 := by
    simp only [usedB, Bool.and_eq_true, decide_eq_true_eq] at hS
    exact ⟨hS.1.1.1.1.1.1, hS.1.1.1.1.1.2⟩
  clear hS
  have hx44 : Ext w4 w4 := Ext.refl w4
  have c0 : w4.cell? ⟨b, 0, none⟩ = some (.int .i64 hd.kind) := hb4.cell 0
  have c6 : w4.cell? ⟨b, 6, none⟩ = some (.int .i64 hd.num) := hb4.cell 6
  have c7 : w4.cell? ⟨b, 7, none⟩ = some (.int .i64 hd.min) := hb4.cell 7
  have c8 : w4.cell? ⟨b, 8, none⟩ = some (.int .i64 hd.max) := hb4.cell 8
  have c9 : w4.cell? ⟨b, 9, none⟩ = some (.bool hd.bare) := hb4.cell 9
  obtain ⟨kind, set, num, mn, mx, bare⟩ := hd
  simp only at *
  have hlz : ∀ m : Nat, ((subs.length : Int) != (m : Int)) = !decide (subs.length = m) := fun m => by
    by_cases h : subs.length = m
    · simp [h]
    · have h2 : ¬ ((subs.length : Int) = (m : Int)) := by omega
      simp [h, h2]
  have l1 : ((subs.length : Int) != 1) = !decide (subs.length = 1) := hlz 1
  have l0 : ((subs.length : Int) != 0) = !decide (subs.length = 0) := hlz 0
  clear hlz hb4
  by_cases h56 : kind = 5 ∨ kind = 6
  · rcases h56 with rfl | rfl
    all_goals
      by_cases h1 : (subs.length : Int) < 2
      · have HR2 := Lib.hid (show res = false by
          rw [HR.out, Bool.and_eq_false_iff]
          refine .inl (Bool.eq_false_iff.2 fun h => ?_)
          simp [swB] at h
          omega)
        clear HR IH HN hx44
        go_wp2
        go_ret
        exact ⟨by rw [HR2.out]; rfl, hxw⟩
      · have HR2 := Lib.hid (show res = formL subs by
          rw [HR.out, show swB _ subs.length = true from by simp [swB]; omega, Bool.true_and])
        clear HR
        go_wp2
        go_loopw [5] (fun i wr => ∃ k : Nat, k ≤ subs.length ∧ i = .int .i64 k ∧ formL (subs.take k) = true ∧ Ext w4 wr) (fun i _ => subs.length - (intOf i).toNat)
        case atStart => exact ⟨0, Nat.zero_le _, rfl, by rw [List.take_zero, formL], hx44⟩
        case round =>
          clear hx44 c0 c6 c7 c8 c9 l0 l1
          obtain ⟨k, hk, rfl, hfl, hx⟩ := hrel
          have HL := Lib.hid hfl
          clear hfl
          replace c5 := hx.cell c5
          by_cases hlt : k < subs.length
          · obtain ⟨g0, o0, sv, rfl, hat, hok⟩ := HN.out.get k hlt
            have hxw2 := hxw.trans hx
            replace hat := hat.ext hxw2
            have HST := Lib.hid (show formL (subs.take (k + 1)) = formB subs[k] by rw [take_snoc subs k hlt, formL_app, HL.out, formL_one, Bool.true_and])
            have HEN := Lib.hid (show formB subs[k] = false → formL subs = false from fun h => by rw [← List.take_append_drop (k + 1) subs, formL_app, HST.out, h, Bool.false_and])
            have IHk := Lib.hid (IH.out subs[k] (List.getElem_mem hlt) sv wr (NdOk.ext hxw2 _ _ hok))
            clear IH HN HL hok
            generalize formB subs[k] = pk at *
            generalize subs[k] = nk at *
            have t1 : (k : Int) < (subs.length : Int) := by omega
            cases pk
            all_goals
              go_wp2_with (first
                | (refine wpl_loadNd rfl _ rfl g0 (o0 + k * 10) nk.h sv rfl hat ?_)
                | (go_at_call 40; refine IHk.out.mono ?_; rintro e w6 ⟨rfl, hx6⟩))
            · go_ret
              exact ⟨by rw [HR2.out, HEN.out trivial]; rfl, hxw2.trans hx6⟩
            · go_roundw
              case rel => exact ⟨k + 1, by omega, by go_num, HST.out, hx.trans hx6⟩
              case measure => simp [intOf]; omega
          · have hkl : subs.take k = subs := List.take_of_length_le (by omega)
            rw [hkl] at HL
            have t1 : ¬ (k : Int) < (subs.length : Int) := by omega
            clear IH HN hkl
            go_wp2
            go_ret
            exact ⟨by rw [HR2.out, HL.out]; rfl, hxw.trans hx⟩
  by_cases h7 : kind = 7
  · subst h7
    by_cases hl : subs.length = 1
    · by_cases h2 : num < 1
      · have HR2 := Lib.hid (show res = false by
          rw [HR.out, Bool.and_eq_false_iff]
          refine .inl (Bool.eq_false_iff.2 fun h => ?_)
          simp [swB] at h
          omega)
        rw [show decide (subs.length = 1) = true from by simpa using hl, Bool.not_true] at l1
        have T := Lib.hid hl
        clear hl
        clear HR IH HN hx44
        go_wp2
        go_ret
        exact ⟨by rw [HR2.out]; rfl, hxw⟩
      · by_cases h3 : 999 < num
        · have HR2 := Lib.hid (show res = false by
            rw [HR.out, Bool.and_eq_false_iff]
            refine .inl (Bool.eq_false_iff.2 fun h => ?_)
            simp [swB] at h
            omega)
          rw [show decide (subs.length = 1) = true from by simpa using hl, Bool.not_true] at l1
          have T := Lib.hid hl
          clear hl
          clear HR IH HN hx44
          go_wp2
          go_ret
          exact ⟨by rw [HR2.out]; rfl, hxw⟩
        · have HR2 := Lib.hid (show res = formL subs by
            rw [HR.out, show swB _ subs.length = true from by simp [swB]; omega, Bool.true_and])
          rw [show decide (subs.length = 1) = true from by simpa using hl, Bool.not_true] at l1
          have T := Lib.hid hl
          clear hl
          clear HR
          go_wp2
          go_loopw [5] (fun i wr => ∃ k : Nat, k ≤ subs.length ∧ i = .int .i64 k ∧ formL (subs.take k) = true ∧ Ext w4 wr) (fun i _ => subs.length - (intOf i).toNat)
          case atStart => exact ⟨0, Nat.zero_le _, rfl, by rw [List.take_zero, formL], hx44⟩
          case round =>
            clear hx44 c0 c6 c7 c8 c9 l0 l1
            obtain ⟨k, hk, rfl, hfl, hx⟩ := hrel
            have HL := Lib.hid hfl
            clear hfl
            replace c5 := hx.cell c5
            by_cases hlt : k < subs.length
            · obtain ⟨g0, o0, sv, rfl, hat, hok⟩ := HN.out.get k hlt
              have hxw2 := hxw.trans hx
              replace hat := hat.ext hxw2
              have HST := Lib.hid (show formL (subs.take (k + 1)) = formB subs[k] by rw [take_snoc subs k hlt, formL_app, HL.out, formL_one, Bool.true_and])
              have HEN := Lib.hid (show formB subs[k] = false → formL subs = false from fun h => by rw [← List.take_append_drop (k + 1) subs, formL_app, HST.out, h, Bool.false_and])
              have IHk := Lib.hid (IH.out subs[k] (List.getElem_mem hlt) sv wr (NdOk.ext hxw2 _ _ hok))
              clear IH HN HL hok
              generalize formB subs[k] = pk at *
              generalize subs[k] = nk at *
              have t1 : (k : Int) < (subs.length : Int) := by omega
              cases pk
              all_goals
                go_wp2_with (first
                  | (refine wpl_loadNd rfl _ rfl g0 (o0 + k * 10) nk.h sv rfl hat ?_)
                  | (go_at_call 40; refine IHk.out.mono ?_; rintro e w6 ⟨rfl, hx6⟩))
              · go_ret
                exact ⟨by rw [HR2.out, HEN.out trivial]; rfl, hxw2.trans hx6⟩
              · go_roundw
                case rel => exact ⟨k + 1, by omega, by go_num, HST.out, hx.trans hx6⟩
                case measure => simp [intOf]; omega
            · have hkl : subs.take k = subs := List.take_of_length_le (by omega)
              rw [hkl] at HL
              have t1 : ¬ (k : Int) < (subs.length : Int) := by omega
              clear IH HN hkl
              go_wp2
              go_ret
              exact ⟨by rw [HR2.out, HL.out]; rfl, hxw.trans hx⟩
    · have HR2 := Lib.hid (show res = false by
        rw [HR.out, Bool.and_eq_false_iff]
        refine .inl (Bool.eq_false_iff.2 fun h => ?_)
        simp [swB] at h
        omega)
      rw [show decide (subs.length = 1) = false from by simpa using hl, Bool.not_false] at l1
      have T := Lib.hid hl
      clear hl
      clear HR IH HN hx44
      go_wp2
      go_ret
      exact ⟨by rw [HR2.out]; rfl, hxw⟩
  by_cases h8 : kind = 8
  · subst h8
    by_cases hl : subs.length = 1
    · by_cases h2 : mn < 0
      · have HR2 := Lib.hid (show res = false by
          rw [HR.out, Bool.and_eq_false_iff]
          refine .inl (Bool.eq_false_iff.2 fun h => ?_)
          simp [swB] at h
          omega)
        rw [show decide (subs.length = 1) = true from by simpa using hl, Bool.not_true] at l1
        have T := Lib.hid hl
        clear hl
        clear HR IH HN hx44
        go_wp2
        go_ret
        exact ⟨by rw [HR2.out]; rfl, hxw⟩
      · by_cases h3 : 255 < mn
        · have HR2 := Lib.hid (show res = false by
            rw [HR.out, Bool.and_eq_false_iff]
            refine .inl (Bool.eq_false_iff.2 fun h => ?_)
            simp [swB] at h
            omega)
          rw [show decide (subs.length = 1) = true from by simpa using hl, Bool.not_true] at l1
          have T := Lib.hid hl
          clear hl
          clear HR IH HN hx44
          go_wp2
          go_ret
          exact ⟨by rw [HR2.out]; rfl, hxw⟩
        · by_cases h4 : mx < -1
          · have HR2 := Lib.hid (show res = false by
              rw [HR.out, Bool.and_eq_false_iff]
              refine .inl (Bool.eq_false_iff.2 fun h => ?_)
              simp [swB] at h
              omega)
            rw [show decide (subs.length = 1) = true from by simpa using hl, Bool.not_true] at l1
            have T := Lib.hid hl
            clear hl
            clear HR IH HN hx44
            go_wp2
            go_ret
            exact ⟨by rw [HR2.out]; rfl, hxw⟩
          · by_cases h5 : 255 < mx
            · have HR2 := Lib.hid (show res = false by
                rw [HR.out, Bool.and_eq_false_iff]
                refine .inl (Bool.eq_false_iff.2 fun h => ?_)
                simp [swB] at h
                omega)
              rw [show decide (subs.length = 1) = true from by simpa using hl, Bool.not_true] at l1
              have T := Lib.hid hl
              clear hl
              clear HR IH HN hx44
              go_wp2
              go_ret
              exact ⟨by rw [HR2.out]; rfl, hxw⟩
            · by_cases hp : 0 ≤ mx
              · by_cases h7 : mx < mn
                · have HR2 := Lib.hid (show res = false by
                    rw [HR.out, Bool.and_eq_false_iff]
                    refine .inl (Bool.eq_false_iff.2 fun h => ?_)
                    simp [swB] at h
                    omega)
                  clear HR IH HN hx44
                  go_wp2
                  go_ret
                  exact ⟨by rw [HR2.out]; rfl, hxw⟩
                · cases bare
                  · have HR2 := Lib.hid (show res = formL subs by
                      rw [HR.out, show swB _ subs.length = true from by simp [swB]; omega, Bool.true_and])
                    rw [show decide (subs.length = 1) = true from by simpa using hl, Bool.not_true] at l1
                    have T := Lib.hid hl
                    clear hl
                    clear HR
                    go_wp2
                    go_loopw [5] (fun i wr => ∃ k : Nat, k ≤ subs.length ∧ i = .int .i64 k ∧ formL (subs.take k) = true ∧ Ext w4 wr) (fun i _ => subs.length - (intOf i).toNat)
                    case atStart => exact ⟨0, Nat.zero_le _, rfl, by rw [List.take_zero, formL], hx44⟩
                    case round =>
                      clear hx44 c0 c6 c7 c8 c9 l0 l1
                      obtain ⟨k, hk, rfl, hfl, hx⟩ := hrel
                      have HL := Lib.hid hfl
                      clear hfl
                      replace c5 := hx.cell c5
                      by_cases hlt : k < subs.length
                      · obtain ⟨g0, o0, sv, rfl, hat, hok⟩ := HN.out.get k hlt
                        have hxw2 := hxw.trans hx
                        replace hat := hat.ext hxw2
                        have HST := Lib.hid (show formL (subs.take (k + 1)) = formB subs[k] by rw [take_snoc subs k hlt, formL_app, HL.out, formL_one, Bool.true_and])
                        have HEN := Lib.hid (show formB subs[k] = false → formL subs = false from fun h => by rw [← List.take_append_drop (k + 1) subs, formL_app, HST.out, h, Bool.false_and])
                        have IHk := Lib.hid (IH.out subs[k] (List.getElem_mem hlt) sv wr (NdOk.ext hxw2 _ _ hok))
                        clear IH HN HL hok
                        generalize formB subs[k] = pk at *
                        generalize subs[k] = nk at *
                        have t1 : (k : Int) < (subs.length : Int) := by omega
                        cases pk
                        all_goals
                          go_wp2_with (first
                            | (refine wpl_loadNd rfl _ rfl g0 (o0 + k * 10) nk.h sv rfl hat ?_)
                            | (go_at_call 40; refine IHk.out.mono ?_; rintro e w6 ⟨rfl, hx6⟩))
                        · go_ret
                          exact ⟨by rw [HR2.out, HEN.out trivial]; rfl, hxw2.trans hx6⟩
                        · go_roundw
                          case rel => exact ⟨k + 1, by omega, by go_num, HST.out, hx.trans hx6⟩
                          case measure => simp [intOf]; omega
                      · have hkl : subs.take k = subs := List.take_of_length_le (by omega)
                        rw [hkl] at HL
                        have t1 : ¬ (k : Int) < (subs.length : Int) := by omega
                        clear IH HN hkl
                        go_wp2
                        go_ret
                        exact ⟨by rw [HR2.out, HL.out]; rfl, hxw.trans hx⟩
                  · by_cases hz : mn = 0
                    · have HR2 := Lib.hid (show res = formL subs by
                        rw [HR.out, show swB _ subs.length = true from by simp [swB]; omega, Bool.true_and])
                      rw [show decide (subs.length = 1) = true from by simpa using hl, Bool.not_true] at l1
                      have T := Lib.hid hl
                      clear hl
                      subst hz
                      clear HR
                      go_wp2
                      go_loopw [5] (fun i wr => ∃ k : Nat, k ≤ subs.length ∧ i = .int .i64 k ∧ formL (subs.take k) = true ∧ Ext w4 wr) (fun i _ => subs.length - (intOf i).toNat)
                      case atStart => exact ⟨0, Nat.zero_le _, rfl, by rw [List.take_zero, formL], hx44⟩
                      case round =>
                        clear hx44 c0 c6 c7 c8 c9 l0 l1
                        obtain ⟨k, hk, rfl, hfl, hx⟩ := hrel
                        have HL := Lib.hid hfl
                        clear hfl
                        replace c5 := hx.cell c5
                        by_cases hlt : k < subs.length
                        · obtain ⟨g0, o0, sv, rfl, hat, hok⟩ := HN.out.get k hlt
                          have hxw2 := hxw.trans hx
                          replace hat := hat.ext hxw2
                          have HST := Lib.hid (show formL (subs.take (k + 1)) = formB subs[k] by rw [take_snoc subs k hlt, formL_app, HL.out, formL_one, Bool.true_and])
                          have HEN := Lib.hid (show formB subs[k] = false → formL subs = false from fun h => by rw [← List.take_append_drop (k + 1) subs, formL_app, HST.out, h, Bool.false_and])
                          have IHk := Lib.hid (IH.out subs[k] (List.getElem_mem hlt) sv wr (NdOk.ext hxw2 _ _ hok))
                          clear IH HN HL hok
                          generalize formB subs[k] = pk at *
                          generalize subs[k] = nk at *
                          have t1 : (k : Int) < (subs.length : Int) := by omega
                          cases pk
                          all_goals
                            go_wp2_with (first
                              | (refine wpl_loadNd rfl _ rfl g0 (o0 + k * 10) nk.h sv rfl hat ?_)
                              | (go_at_call 40; refine IHk.out.mono ?_; rintro e w6 ⟨rfl, hx6⟩))
                          · go_ret
                            exact ⟨by rw [HR2.out, HEN.out trivial]; rfl, hxw2.trans hx6⟩
                          · go_roundw
                            case rel => exact ⟨k + 1, by omega, by go_num, HST.out, hx.trans hx6⟩
                            case measure => simp [intOf]; omega
                        · have hkl : subs.take k = subs := List.take_of_length_le (by omega)
                          rw [hkl] at HL
                          have t1 : ¬ (k : Int) < (subs.length : Int) := by omega
                          clear IH HN hkl
                          go_wp2
                          go_ret
                          exact ⟨by rw [HR2.out, HL.out]; rfl, hxw.trans hx⟩
                    · have HR2 := Lib.hid (show res = false by
                        rw [HR.out, Bool.and_eq_false_iff]
                        refine .inl (Bool.eq_false_iff.2 fun h => ?_)
                        simp [swB] at h
                        omega)
                      rw [show decide (subs.length = 1) = true from by simpa using hl, Bool.not_true] at l1
                      have T := Lib.hid hl
                      clear hl
                      have n1 : (mn != 0) = true := by simpa using hz
                      clear HR IH HN hx44
                      go_wp2
                      go_ret
                      exact ⟨by rw [HR2.out]; rfl, hxw⟩
              · cases bare
                · have HR2 := Lib.hid (show res = formL subs by
                    rw [HR.out, show swB _ subs.length = true from by simp [swB]; omega, Bool.true_and])
                  rw [show decide (subs.length = 1) = true from by simpa using hl, Bool.not_true] at l1
                  have T := Lib.hid hl
                  clear hl
                  clear HR
                  go_wp2
                  go_loopw [5] (fun i wr => ∃ k : Nat, k ≤ subs.length ∧ i = .int .i64 k ∧ formL (subs.take k) = true ∧ Ext w4 wr) (fun i _ => subs.length - (intOf i).toNat)
                  case atStart => exact ⟨0, Nat.zero_le _, rfl, by rw [List.take_zero, formL], hx44⟩
                  case round =>
                    clear hx44 c0 c6 c7 c8 c9 l0 l1
                    obtain ⟨k, hk, rfl, hfl, hx⟩ := hrel
                    have HL := Lib.hid hfl
                    clear hfl
                    replace c5 := hx.cell c5
                    by_cases hlt : k < subs.length
                    · obtain ⟨g0, o0, sv, rfl, hat, hok⟩ := HN.out.get k hlt
                      have hxw2 := hxw.trans hx
                      replace hat := hat.ext hxw2
                      have HST := Lib.hid (show formL (subs.take (k + 1)) = formB subs[k] by rw [take_snoc subs k hlt, formL_app, HL.out, formL_one, Bool.true_and])
                      have HEN := Lib.hid (show formB subs[k] = false → formL subs = false from fun h => by rw [← List.take_append_drop (k + 1) subs, formL_app, HST.out, h, Bool.false_and])
                      have IHk := Lib.hid (IH.out subs[k] (List.getElem_mem hlt) sv wr (NdOk.ext hxw2 _ _ hok))
                      clear IH HN HL hok
                      generalize formB subs[k] = pk at *
                      generalize subs[k] = nk at *
                      have t1 : (k : Int) < (subs.length : Int) := by omega
                      cases pk
                      all_goals
                        go_wp2_with (first
                          | (refine wpl_loadNd rfl _ rfl g0 (o0 + k * 10) nk.h sv rfl hat ?_)
                          | (go_at_call 40; refine IHk.out.mono ?_; rintro e w6 ⟨rfl, hx6⟩))
                      · go_ret
                        exact ⟨by rw [HR2.out, HEN.out trivial]; rfl, hxw2.trans hx6⟩
                      · go_roundw
                        case rel => exact ⟨k + 1, by omega, by go_num, HST.out, hx.trans hx6⟩
                        case measure => simp [intOf]; omega
                    · have hkl : subs.take k = subs := List.take_of_length_le (by omega)
                      rw [hkl] at HL
                      have t1 : ¬ (k : Int) < (subs.length : Int) := by omega
                      clear IH HN hkl
                      go_wp2
                      go_ret
                      exact ⟨by rw [HR2.out, HL.out]; rfl, hxw.trans hx⟩
                · by_cases hz : mn = 0
                  · have HR2 := Lib.hid (show res = formL subs by
                      rw [HR.out, show swB _ subs.length = true from by simp [swB]; omega, Bool.true_and])
                    rw [show decide (subs.length = 1) = true from by simpa using hl, Bool.not_true] at l1
                    have T := Lib.hid hl
                    clear hl
                    subst hz
                    clear HR
                    go_wp2
                    go_loopw [5] (fun i wr => ∃ k : Nat, k ≤ subs.length ∧ i = .int .i64 k ∧ formL (subs.take k) = true ∧ Ext w4 wr) (fun i _ => subs.length - (intOf i).toNat)
                    case atStart => exact ⟨0, Nat.zero_le _, rfl, by rw [List.take_zero, formL], hx44⟩
                    case round =>
                      clear hx44 c0 c6 c7 c8 c9 l0 l1
                      obtain ⟨k, hk, rfl, hfl, hx⟩ := hrel
                      have HL := Lib.hid hfl
                      clear hfl
                      replace c5 := hx.cell c5
                      by_cases hlt : k < subs.length
                      · obtain ⟨g0, o0, sv, rfl, hat, hok⟩ := HN.out.get k hlt
                        have hxw2 := hxw.trans hx
                        replace hat := hat.ext hxw2
                        have HST := Lib.hid (show formL (subs.take (k + 1)) = formB subs[k] by rw [take_snoc subs k hlt, formL_app, HL.out, formL_one, Bool.true_and])
                        have HEN := Lib.hid (show formB subs[k] = false → formL subs = false from fun h => by rw [← List.take_append_drop (k + 1) subs, formL_app, HST.out, h, Bool.false_and])
                        have IHk := Lib.hid (IH.out subs[k] (List.getElem_mem hlt) sv wr (NdOk.ext hxw2 _ _ hok))
                        clear IH HN HL hok
                        generalize formB subs[k] = pk at *
                        generalize subs[k] = nk at *
                        have t1 : (k : Int) < (subs.length : Int) := by omega
                        cases pk
                        all_goals
                          go_wp2_with (first
                            | (refine wpl_loadNd rfl _ rfl g0 (o0 + k * 10) nk.h sv rfl hat ?_)
                            | (go_at_call 40; refine IHk.out.mono ?_; rintro e w6 ⟨rfl, hx6⟩))
                        · go_ret
                          exact ⟨by rw [HR2.out, HEN.out trivial]; rfl, hxw2.trans hx6⟩
                        · go_roundw
                          case rel => exact ⟨k + 1, by omega, by go_num, HST.out, hx.trans hx6⟩
                          case measure => simp [intOf]; omega
                      · have hkl : subs.take k = subs := List.take_of_length_le (by omega)
                        rw [hkl] at HL
                        have t1 : ¬ (k : Int) < (subs.length : Int) := by omega
                        clear IH HN hkl
                        go_wp2
                        go_ret
                        exact ⟨by rw [HR2.out, HL.out]; rfl, hxw.trans hx⟩
                  · have HR2 := Lib.hid (show res = false by
                      rw [HR.out, Bool.and_eq_false_iff]
                      refine .inl (Bool.eq_false_iff.2 fun h => ?_)
                      simp [swB] at h
                      omega)
                    rw [show decide (subs.length = 1) = true from by simpa using hl, Bool.not_true] at l1
                    have T := Lib.hid hl
                    clear hl
                    have n1 : (mn != 0) = true := by simpa using hz
                    clear HR IH HN hx44
                    go_wp2
                    go_ret
                    exact ⟨by rw [HR2.out]; rfl, hxw⟩
    · have HR2 := Lib.hid (show res = false by
        rw [HR.out, Bool.and_eq_false_iff]
        refine .inl (Bool.eq_false_iff.2 fun h => ?_)
        simp [swB] at h
        omega)
      rw [show decide (subs.length = 1) = false from by simpa using hl, Bool.not_false] at l1
      have T := Lib.hid hl
      clear hl
      clear HR IH HN hx44
      go_wp2
      go_ret
      exact ⟨by rw [HR2.out]; rfl, hxw⟩
  rcases (show kind = 1 ∨ kind = 2 ∨ kind = 3 ∨ kind = 4 from by omega) with rfl | rfl | rfl | rfl
  all_goals
    clear h56 h7 h8 hkk
    by_cases hl : subs.length = 0
    · have HR2 := Lib.hid (show res = formL subs by
        rw [HR.out, show swB _ subs.length = true from by simp [swB, hl], Bool.true_and])
      rw [show decide (subs.length = 0) = true from by simpa using hl, Bool.not_true] at l0
      have T := Lib.hid hl
      clear hl
      clear HR
      go_wp2
      go_loopw [5] (fun i wr => ∃ k : Nat, k ≤ subs.length ∧ i = .int .i64 k ∧ formL (subs.take k) = true ∧ Ext w4 wr) (fun i _ => subs.length - (intOf i).toNat)
      case atStart => exact ⟨0, Nat.zero_le _, rfl, by rw [List.take_zero, formL], hx44⟩
      case round =>
        clear hx44 c0 c6 c7 c8 c9 l0 l1
        obtain ⟨k, hk, rfl, hfl, hx⟩ := hrel
        have HL := Lib.hid hfl
        clear hfl
        replace c5 := hx.cell c5
        by_cases hlt : k < subs.length
        · obtain ⟨g0, o0, sv, rfl, hat, hok⟩ := HN.out.get k hlt
          have hxw2 := hxw.trans hx
          replace hat := hat.ext hxw2
          have HST := Lib.hid (show formL (subs.take (k + 1)) = formB subs[k] by rw [take_snoc subs k hlt, formL_app, HL.out, formL_one, Bool.true_and])
          have HEN := Lib.hid (show formB subs[k] = false → formL subs = false from fun h => by rw [← List.take_append_drop (k + 1) subs, formL_app, HST.out, h, Bool.false_and])
          have IHk := Lib.hid (IH.out subs[k] (List.getElem_mem hlt) sv wr (NdOk.ext hxw2 _ _ hok))
          clear IH HN HL hok
          generalize formB subs[k] = pk at *
          generalize subs[k] = nk at *
          have t1 : (k : Int) < (subs.length : Int) := by omega
          cases pk
          all_goals
            go_wp2_with (first
              | (refine wpl_loadNd rfl _ rfl g0 (o0 + k * 10) nk.h sv rfl hat ?_)
              | (go_at_call 40; refine IHk.out.mono ?_; rintro e w6 ⟨rfl, hx6⟩))
          · go_ret
            exact ⟨by rw [HR2.out, HEN.out trivial]; rfl, hxw2.trans hx6⟩
          · go_roundw
            case rel => refine ⟨_, _, _, _, _, _, _, _, _, _, _, _, _, _, _, _, ?_, by congr 1⟩; exact ⟨k + 1, by omega, by go_num, HST.out, hx.trans hx6⟩
            case measure => simp [intOf]; omega
        · have hkl : subs.take k = subs := List.take_of_length_le (by omega)
          rw [hkl] at HL
          have t1 : ¬ (k : Int) < (subs.length : Int) := by omega
          clear IH HN hkl
          go_wp2
          go_ret
          exact ⟨by rw [HR2.out, HL.out]; rfl, hxw.trans hx⟩
    · have HR2 := Lib.hid (show res = false by
        rw [HR.out, Bool.and_eq_false_iff]
        refine .inl (Bool.eq_false_iff.2 fun h => ?_)
        simp [swB, hl] at h)
      rw [show decide (subs.length = 0) = false from by simpa using hl, Bool.not_false] at l0
      have T := Lib.hid hl
      clear hl
      clear HR IH HN hx44
      go_wp2
      go_ret
      exact ⟨by rw [HR2.out]; rfl, hxw⟩

end Go.Proofs.YtgfknlkpdiejgaaGreatDoor
