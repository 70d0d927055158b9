/- trawlnum.SameSpans as a contract. Condition: both lists can be read; the first has at most a million elements. The law for drawn regions whose operations write to slots anywhere: as InvZ's wp_region_predz, the state given as a function of what the operations leave. No program. The fixed fact of layer 22's statements as a contract. Condition: the error values and the library's table lie where they lie. scene.New for subjects of any length that a memory can hold. -/
import Derived.Test.YtgfknlkpdiejgaaGreatDoorZRankedSpansAL
import Derived.Test.YtgfknlkpdiejgaaGreatDoorZRankedSpansAU
import Derived.Test.YtgfknlkpdiejgaaGreatDoorZRankedSpansAP
import Derived.Test.YtgfknlkpdiejgaaGreatDoorZRankedSpansAT
import Derived.Great.BuildSlice
import Derived.Deep.RegionHeld3
import Derived.Test.YtgfknlkpdiejgaaGreatDoorZRankedSpansAI
namespace Go.Proofs.YtgfknlkpdiejgaaGreatDoor
open Go Go.RowKit

/-- A slice of spans reads as this list. -/
def RdSn (w : World) (v : Value) (l : List (Int × Int)) : Prop :=
  ∃ A c, v = .slice A l.length c ∧ ∀ j (h : j < l.length), ∃ g o, A = some ⟨g, o, none⟩ ∧ w.cell? ⟨g, o + j * 2, none⟩ = some (.int .i64 l[j].1) ∧ w.cell? ⟨g, o + j * 2 + 1, none⟩ = some (.int .i64 l[j].2)
theorem RdSn.ext {w w' : World} {v : Value} {l : List (Int × Int)} (h : RdSn w v l) (hx : Ext w w') : RdSn w' v l := by
  obtain ⟨A, c, hv, hc⟩ := h
  exact ⟨A, c, hv, fun j hj => by obtain ⟨g, o, hA, h1, h2⟩ := hc j hj; exact ⟨g, o, hA, hx.cell h1, hx.cell h2⟩⟩
theorem RdSn.nil (w : World) (A : Option Addr) (c : Nat) : RdSn w (.slice A 0 c) [] := ⟨A, c, rfl, fun _ hj => absurd hj (Nat.not_lt_zero _)⟩
theorem RdSn.of_own {w : World} {B : Nat} {v : Value} {l : List (Int × Int)} (h : OwnSp w B v l) : RdSn w v l := by
  rcases OwnR.slice h with ⟨rfl, h0⟩ | ⟨g, cap, cur, hv, _⟩
  · have : l = [] := by cases l with
      | nil => rfl
      | cons => simp [spR] at h0
    subst this
    exact RdSn.nil _ _ _
  · subst hv
    refine ⟨_, cap, by rw [spR_len], fun j hj => ⟨g, 0, rfl, ?_, ?_⟩⟩
    · have := OwnR.cell h j _ (spR_get l j hj) 0 (by omega)
      rw [Nat.zero_add]
      exact this
    · have := OwnR.cell h j _ (spR_get l j hj) 1 (by omega)
      rw [Nat.zero_add]
      exact this

set_option maxHeartbeats 4000000 in
theorem eqIn_span (d : Nat) (a0 a1 b0 b1 : Int) (w : World) :
    (Op.equalIn (d + 2) 52 (.agg #[.int .i64 a0, .int .i64 a1]) (.agg #[.int .i64 b0, .int .i64 b1])).run Tryz.prog w = .ok (decide (a0 = b0 ∧ a1 = b1)) w := by
  have p0 : ∀ (a0 a1 : Int) w, (part 3 #[.int .i64 a0, .int .i64 a1] 0).run Tryz.prog w = .ok (.int .i64 a0) w := fun _ _ _ => by kernel_rfl
  have p1 : ∀ (a0 a1 : Int) w, (part 3 #[.int .i64 a0, .int .i64 a1] 1).run Tryz.prog w = .ok (.int .i64 a1) w := fun _ _ _ => by kernel_rfl
  have e : ∀ (a b : Int) w, (Op.equalIn (d + 1) 3 (.int .i64 a) (.int .i64 b)).run Tryz.prog w = .ok (decide (a = b)) w := fun a b w => by
    rw [run_equalIn_int w d _ _ _ a b Tryz.underlying3]; by_cases h : a = b <;> simp [h]
  unfold Op.equalIn
  simp only [Sem.run_bind, run_underlying Tryz.underlying52, Result.andThen_ok]
  by_cases h0 : a0 = b0 <;> by_cases h1 : a1 = b1 <;> simp [p0, p1, e, List.forIn_cons, h0, h1]
theorem neq_span (a0 a1 b0 b1 : Int) (w : World) :
    (binOp .neq 52 (.agg #[.int .i64 a0, .int .i64 a1]) (.agg #[.int .i64 b0, .int .i64 b1])).run Tryz.prog w = .ok (.bool (!decide (a0 = b0 ∧ a1 = b1))) w := by
  have := eqIn_span 9998 a0 a1 b0 b1 w
  simp only [binOp]
  simp [Op.equal, Op.maxDepth, this]

theorem eq_prefix {la lb : List (Int × Int)} (hl : la.length = lb.length) (h : ∀ j (h1 : j < la.length) (h2 : j < lb.length), la[j] = lb[j]) : la = lb := List.ext_getElem hl h

set_option maxRecDepth 100000 in
set_option maxHeartbeats 2000000 in
theorem sameSpans_any (va vb : Value) (la lb : List (Int × Int)) (w : World) (hm : la.length ≤ 1000000) (ha : RdSn w va la) (hb : RdSn w vb lb) :
    Calls Tryz.prog 12 #[va, vb] w fun r w' => r = .returned (.bool (decide (la = lb))) ∧ Ext w w' := by
  obtain ⟨A, ca, rfl, hca⟩ := ha
  obtain ⟨B, cb, rfl, hcb⟩ := hb
  have HCA := Lib.hid hca
  have HCB := Lib.hid hcb
  clear hca hcb
  by_cases hl : la.length = lb.length
  case neg =>
    have hne : ((la.length : Int) != (lb.length : Int)) = true := by rw [bne_iff_ne]; omega
    have hf : decide (la = lb) = false := by rw [decide_eq_false_iff_not]; intro e; apply hl; rw [e]
    have HF := Lib.hid hf
    clear hf hl
    go_enter Tryz.func12, Tryz.ntmps12
    go_wp2
    go_ret
    exact ⟨ret_bool HF.out.symm, Ext.refl _⟩
  have hne : ((la.length : Int) != (lb.length : Int)) = false := by rw [hl]; simp
  have HL := Lib.hid hl; clear hl
  go_enter Tryz.func12, Tryz.ntmps12
  go_wp2
  go_loopw [13] (fun i wr => ∃ k : Nat, k ≤ la.length ∧ i = .int .i64 k ∧ Hid (∀ j (h1 : j < la.length) (h2 : j < lb.length), j < k → la[j] = lb[j]) ∧ Ext w wr) (fun i _ => la.length - (intOf i).toNat)
  case atStart => exact ⟨0, Nat.zero_le _, rfl, Lib.hid (fun j _ _ hj => by omega), Ext.refl _⟩
  case round =>
    obtain ⟨k, hk, rfl, hq, hx⟩ := hrel
    by_cases hlt : k < la.length
    · have hlt2 : k < lb.length := by have := HL.out; omega
      obtain ⟨g, o, rfl, h1, h2⟩ := HCA.out k hlt
      obtain ⟨g', o', rfl, h3, h4⟩ := HCB.out k hlt2
      have p1 := cell_plus (hx.cell h1)
      have p2 := cell_plus (hx.cell h2)
      have p3 := cell_plus (hx.cell h3)
      have p4 := cell_plus (hx.cell h4)
      have t1 : (k : Int) < (la.length : Int) := by omega
      have t2 : (k : Int) < (lb.length : Int) := by omega
      have HE := Lib.hid (show (la[k] = lb[k]) ↔ (la[k].1 = lb[k].1 ∧ la[k].2 = lb[k].2) from Prod.ext_iff)
      have HNE := Lib.hid (show la = lb → la[k] = lb[k] from fun e => by subst e; rfl)
      clear h1 h2 h3 h4 HCA HCB
      have HQ := hq
      clear hq
      generalize hxk : la[k] = xk at *
      generalize hyk : lb[k] = yk at *
      have HXK := Lib.hid hxk
      have HYK := Lib.hid hyk
      clear hxk hyk
      obtain ⟨x1, x2⟩ := xk
      obtain ⟨y1, y2⟩ := yk
      simp only at *
      have hne2 := neq_span x1 x2 y1 y2
      obtain ⟨bq, HBQ⟩ : ∃ bq, Hid (bq = decide (x1 = y1 ∧ x2 = y2)) := ⟨_, Lib.hid rfl⟩
      rw [← HBQ.out] at hne2
      go_upto_region 6 with fail
      refine wp_region_plus (by kernel_rfl) (by kernel_rfl) ?_
      repeat (go_big_quiet_step (fail))
      refine wpQuiet_nil ?_
      intro y
      clear p1 p2 p3 p4 hne2
      cases bq
      · have hf : decide (la = lb) = false := by
          rw [decide_eq_false_iff_not]
          intro e
          have h1 := HBQ.out
          rw [decide_eq_true (by have := HNE.out e; simpa using this)] at h1
          cases h1
        have HF := Lib.hid hf
        clear hf
        go_wp2
        go_ret
        exact ⟨ret_bool HF.out.symm, hx.trans (plus_ext _ y)⟩
      · have HEQ := Lib.hid (of_decide_eq_true HBQ.out.symm)
        go_wp2
        go_roundw
        case rel =>
          refine ⟨k + 1, hlt, by go_num, Lib.hid (fun j h1 h2 hj => ?_), hx.trans (plus_ext _ y)⟩
          rcases Nat.lt_or_ge j k with hjk | hjk
          · exact HQ.out j h1 h2 hjk
          · have : j = k := by omega
            subst this
            rw [HXK.out, HYK.out, HEQ.out.1, HEQ.out.2]
        case measure => simp [intOf]; omega
    · have hf : decide (la = lb) = true := by
        rw [decide_eq_true_eq]
        exact eq_prefix HL.out (fun j h1 h2 => hq.out j h1 h2 (by omega))
      have HF := Lib.hid hf
      have t1 : ¬ (k : Int) < (la.length : Int) := by omega
      clear hf hq HCA HCB
      go_wp2
      go_ret
      exact ⟨ret_bool HF.out.symm, hx⟩

end Go.Proofs.YtgfknlkpdiejgaaGreatDoor

namespace Go.Proofs.YtgfknlkpdiejgaaGreatDoor
open Go Go.RowKit

theorem wp_region_predT {P : Program} {Q : Exit → Act → World → Prop} {id : Nat} {l : List Oper} {a0 : Act} {w : World} (n : Nat) (tg : List (Value → World → Prop)) (hst : Lasts tg) (T : (Nat → Value) → Act) (u0 : Nat → Value) (h0 : T u0 = a0) (hm : P.follows .mixedOrders = true) (hn0 : decide (n < l.toArray.size) = true)
    (hback : (List.range l.toArray.size).all (fun i => (depsL .any l.toArray i).all (decide <| · < i)) = true)
    (hs : Region.sinkB .any l.toArray n = true) (hc : Region.chainB .any l.toArray n = true) (hq : Region.seqB .any l.toArray (l.toArray.size - n) n (headA l.toArray.size n) = true)
    (h : AllS (fun i o => ∀ u W, Ext w W → (∀ j ∈ depsL .any l.toArray i, postP tg j (u j) W) → wpList P l.toArray (stepQ fun a' W' => Ext W W' ∧ ∃ v, a' = T (updN u i v) ∧ postP tg i v W') [o] (T u) W) 0 (l.take n) ∧
      ∀ u W, Ext w W → (∀ j, j < n → postP tg j (u j) W) → wpList P l.toArray Q (l.drop n) (T u) W) : (Code.region id l.toArray true).wp P Q a0 w := by
  obtain ⟨h1, h2⟩ := h
  refine wp_region_any hm ?_
  rw [← h0]
  refine wpAny_invz (w0 := w) n (of_decide_eq_true hn0) T (postP tg) (fun i v W W' hx hp => ?_) hback hs hc hq (fun i o hi ho => ?_) (fun u W hx hp => h2 u W hx hp) l.toArray.size (Array.replicate l.toArray.size false) u0 _ (Ext.refl w).drew ⟨by simp, fun j oj _ hl => (by rw [getD_replicate_false] at hl; cases hl), fun t _ ht => getD_in (by simpa using ht) (getD_replicate_false _ _)⟩ ?_ (fun j _ hl => ?_)
  · unfold postP at *
    cases e : tg[i]? with
    | none => trivial
    | some q =>
      rw [e] at hp
      exact hst q (List.mem_of_getElem? e) v W W' hx hp
  · have := AllS.get _ 0 h1 i o (by rw [List.getElem?_take, if_pos hi]; simpa using ho)
    rw [Nat.zero_add] at this
    exact this
  · rw [Array.toList_replicate]
    unfold cntF
    rw [List.filter_replicate]
    simp
  · rw [getD_replicate_false] at hl
    cases hl

end Go.Proofs.YtgfknlkpdiejgaaGreatDoor

namespace Go.Proofs.YtgfknlkpdiejgaaGreatDoor
open Go Go.RowKit

section
variable {ops : Array Oper} {rest : List Oper} {o : Oper} {a : Act} {w : World} {Q : Exit → Act → World → Prop}
/-- A list literal of three nodes. -/
theorem wpl_threeNd (hgd : o.guard = none) (x y z : Operand) (ho : o.op = .buildSlice 25 3 #[(0, x), (1, y), (2, z)]) (h h' h'' : Hd) (sv sv' sv'' : Value) (hx : a.eval x = nodeV h sv) (hy : a.eval y = nodeV h' sv') (hz' : a.eval z = nodeV h'' sv'')
    (hK : ∀ g w1, NdAt w1 g 0 h sv → NdAt w1 g 10 h' sv' → NdAt w1 g 20 h'' sv'' → Ext w w1 → w.heap.size ≤ g → wpList Tryz.prog ops Q rest (a.put o.dst (.slice (some ⟨g, 0, none⟩) 3 3)) w1) : wpList Tryz.prog ops Q (o :: rest) a w := by
  obtain ⟨i, hi, hz⟩ := Option.map_eq_some_iff.1 zero_nd
  have hs : i.size = 10 := by have := info_nd; rw [hi] at this; simpa using this
  have hb : ∀ j, j < 30 → (w.alloc (.cells ((nodeC h sv ++ (nodeC h' sv' ++ nodeC h'' sv'')).toArray) 27)).cell? ⟨w.heap.size, j, none⟩ = (nodeC h sv ++ (nodeC h' sv' ++ nodeC h'' sv''))[j]? := fun j _ => by
    rw [(Blk.new w _ _).cell]; simp
  refine wpList_buildSlice hgd 25 27 3 _ ho ((nodeC h sv ++ (nodeC h' sv' ++ nodeC h'' sv'')).toArray) i _ Tryz.underlying25 hi hz (by rw [hs]; decide) (by rw [hs]; decide) ?_ (hK _ _ (fun j hj => by
      rw [Nat.zero_add, hb j (by omega), List.getElem?_append_left (by rw [nodeC_len]; omega)]) (fun j hj => by
      rw [hb (10 + j) (by omega), List.getElem?_append_right (by rw [nodeC_len]; omega), nodeC_len, Nat.add_sub_cancel_left, List.getElem?_append_left (by rw [nodeC_len]; omega)]) (fun j hj => by
      rw [hb (20 + j) (by omega), List.getElem?_append_right (by rw [nodeC_len]; omega), nodeC_len, List.getElem?_append_right (by rw [nodeC_len]; omega), nodeC_len, show 20 + j - 10 - 10 = j by omega]) ((Ext.refl w).alloc _) (Nat.le_refl _))
  rw [hs]
  have hf := Great.fill_whole (s := 10) (by decide) [nodeV h sv, nodeV h' sv', nodeV h'' sv''] ((Array.range (3 * 10)).map ((nodeV ⟨0, fun _ => false, 0, 0, 0, false⟩ (.slice none 0 0)).cells[· % (nodeV ⟨0, fun _ => false, 0, 0, 0, false⟩ (.slice none 0 0)).cells.size]!)) (fun v hv => by
    simp only [List.mem_cons, List.not_mem_nil, or_false] at hv
    rcases hv with rfl | rfl | rfl <;> rfl) (by simp)
  have e : (List.map (fun x => (x.2, x.1)) ([nodeV h sv, nodeV h' sv', nodeV h'' sv''].zipIdx 0)) = (Array.map (fun x => (x.1, a.eval x.2)) #[(0, x), (1, y), (2, z)]).toList := by simp [hx, hy, hz', List.zipIdx]
  rw [e] at hf
  rw [hf]
  simp [nodeV_eq, Value.cells, nodeA]
end
theorem NdOk.three {W : World} {n n' n'' : Nd} {h : Hd} {g c : Nat} {sv sv' sv'' : Value} (ha : NdAt W g 0 n.h sv) (hn : NdOk W n sv) (ha' : NdAt W g 10 n'.h sv') (hn' : NdOk W n' sv') (ha'' : NdAt W g 20 n''.h sv'') (hn'' : NdOk W n'' sv'') : NdOk W (.mk h [n, n', n'']) (.slice (some ⟨g, 0, none⟩) 3 c) := by
  unfold NdOk
  refine ⟨_, c, rfl, ⟨g, 0, sv, rfl, fun i hi => ?_, hn⟩, ⟨g, 0, sv', rfl, fun i hi => ?_, hn'⟩, ⟨g, 0, sv'', rfl, fun i hi => ?_, hn''⟩, trivial⟩
  · have := ha i hi
    rwa [Nat.zero_add] at this ⊢
  · have := ha' i hi
    rwa [show 0 + (0 + 1) * 10 + i = 10 + i by omega]
  · have := ha'' i hi
    rwa [show 0 + (0 + 1 + 1) * 10 + i = 20 + i by omega]

theorem lit4 {W : World} {g : Nat} {t : TypeId} (hB : Blk W g t #[.int .i64 0, .int .i64 3, .int .i64 0, .int .i64 1, .int .i64 (-1), .int .i64 (-1), .int .i64 1, .int .i64 3]) : RdSn W (.slice (some ⟨g, 0, none⟩) 4 4) [(0, 3), (0, 1), (-1, -1), (1, 3)] := by
  refine ⟨_, 4, rfl, fun j hj => ⟨g, 0, rfl, ?_⟩⟩
  have hj' : j = 0 ∨ j = 1 ∨ j = 2 ∨ j = 3 := by simp at hj; omega
  rcases hj' with rfl | rfl | rfl | rfl <;> exact ⟨by rw [hB.cell]; rfl, by rw [hB.cell]; rfl⟩

set_option maxRecDepth 100000 in
set_option maxHeartbeats 16000000 in
theorem lives22_any (w : World) (A : Nat → Addr) (hE : Err3 w A) (v14 : w.cell? ⟨14, 0, none⟩ = some (errV (A 14))) (hT : Tab w) :
    Calls Tryz.prog 5 #[] w fun r w' => r = .returned (.bool true) ∧ Ext w w' := by
  have HT97 : Hid (∀ W, Calls Tryz.prog 17 #[.string ⟨#[97]⟩] W (RetNd W (leafN 97))) := Lib.hid (fun W => text_any ⟨#[97]⟩ W (by decide))
  have HT98 : Hid (∀ W, Calls Tryz.prog 17 #[.string ⟨#[98]⟩] W (RetNd W (leafN 98))) := Lib.hid (fun W => text_any ⟨#[98]⟩ W (by decide))
  have HE := Lib.hid hE
  have HV := Lib.hid v14
  have HTB := Lib.hid hT
  clear hE v14 hT
  go_enter Tryz.func5, Tryz.ntmps5
  go_upto_region 2 with (first
    | (go_at_call 17; ((with_reducible refine (HT98.out _).mono ?_); rintro e w2 ⟨sv2, rfl, hn2, hx2⟩))
    | (go_at_call 17; ((with_reducible refine (HT97.out _).mono ?_); rintro e w1 ⟨sv1, rfl, hn1, hx1⟩))
    | (have := s3; refine wpl_allocNd rfl rfl ?_; intro z4 w4 hz4 hx4 e4 s4)
    | (refine wpl_allocNd rfl rfl ?_; intro z3 w3 hz3 hx3 e3 s3)
    | (refine wpl_storeNd rfl _ _ rfl rfl z3 (leafN 97).h _ sv1 _ rfl rfl hn1.ok.sl (hz3.ext hx4) ?_; intro w5 hz5 hk5)
    | (refine wpl_storeNd rfl _ _ rfl rfl z4 (leafN 98).h _ sv2 _ rfl rfl hn2.ok.sl (hz4.keep1 hk5 (by omega)) ?_; intro w6 hz6 hk6))
  have OK1 := Lib.hid (NdOk.ext ((((hx2.trans hx3).trans hx4).keep1 hk5 (by have := hx2.size; omega)).keep1 hk6 (by have := hx2.size; have := hx3.size; omega)) _ _ hn1.ok)
  have OK2 := Lib.hid (NdOk.ext (((hx3.trans hx4).keep1 hk5 (by omega)).keep1 hk6 (by have := hx3.size; omega)) _ _ hn2.ok)
  have HZ3 := Lib.hid (hz5.keep1 hk6 (by omega))
  have HZ4 := Lib.hid hz6
  have hx06 := ((((hx1.trans hx2).trans hx3).trans hx4).keep1 hk5 (by have := hx1.size; have := hx2.size; omega)).keep1 hk6 (by have := hx1.size; have := hx2.size; have := hx3.size; omega)
  have HX6 := Lib.hid hx06
  clear hn1 hn2 hx1 hx2 hx3 hx4 hk5 hk6 hz3 hz4 hz5 hz6 e3 s3 e4 s4 hx06 HT97 HT98
  simp only [Act.put, List.setIfInBounds_toArray, List.set_cons_zero, List.set_cons_succ]
  go_cut [3] (fun v wx => ∃ z sv, v = .pointer (some ⟨z, 0, none⟩) ∧ Blk wx z 27 (nodeA lvT.h sv) ∧ NdCap wx lvT sv ∧ Ext w6 wx)
  case first =>
    obtain ⟨T, hT⟩ : ∃ T : (Nat → Value) → Act, ∀ u, T u = { tmps := #[.bool false, .pointer (some ⟨z3, 0, none⟩), .pointer (some ⟨z4, 0, none⟩), u 11, undef, undef, undef, nodeV (leafN 97).h sv1, nodeV (leafN 98).h sv2, u 0, u 1, u 2, u 3, u 4, u 5, u 6, u 7, u 8, u 9, u 10, undef, undef, undef, undef, undef, undef, undef, undef, undef, undef, undef, undef, undef, undef, undef, undef, undef, undef, undef, undef, undef], defers := [] } := ⟨_, fun _ => rfl⟩
    refine wp_region_predT 12 [fun v W' => ∃ sv, v = nodeV (leafN 97).h sv ∧ NdOk W' (leafN 97) sv, fun v W' => ∃ sv, v = nodeV (stN (leafN 97)).h sv ∧ NdOk W' (stN (leafN 97)) sv, fun v W' => ∃ sv, v = nodeV (lvA).h sv ∧ NdOk W' (lvA) sv, fun v W' => ∃ sv, v = nodeV (textN [97, 98]).h sv ∧ NdOk W' (textN [97, 98]) sv, fun v W' => ∃ sv, v = nodeV (lvG).h sv ∧ NdOk W' (lvG) sv, fun v W' => ∃ sv, v = nodeV (stN lvG).h sv ∧ NdOk W' (stN lvG) sv, fun v W' => ∃ sv, v = nodeV (leafN 98).h sv ∧ NdOk W' (leafN 98) sv, fun v W' => ∃ sv, v = nodeV (stN (leafN 98)).h sv ∧ NdOk W' (stN (leafN 98)) sv, fun v W' => ∃ sv, v = nodeV (lvB).h sv ∧ NdOk W' (lvB) sv, fun v W' => NdOk W' (.mk (hdV 0) [lvA, stN lvG, lvB]) v, fun v W' => ∃ sv, v = nodeV lvT.h sv ∧ CapZ W' lvT sv, fun v W' => ∃ z, v = .pointer (some ⟨z, 0, none⟩) ∧ Blk W' z 27 (nodeA ⟨0, fun _ => false, 0, 0, 0, false⟩ (.slice none 0 0)) ∧ w6.heap.size ≤ z] ((((((((((((Lasts.nil.cons fun (v : Value) V V' hx ⟨z, h1, h2, h3⟩ => ⟨z, h1, h2.ext hx, h3⟩).cons fun (v : Value) V V' hx ⟨sv, h1, h2⟩ => ⟨sv, h1, h2.ext hx⟩).cons fun (v : Value) V V' hx (h2 : NdOk V (.mk (hdV 0) [lvA, stN lvG, lvB]) v) => (NdOk.ext hx _ _ h2 : NdOk V' (.mk (hdV 0) [lvA, stN lvG, lvB]) v)).cons fun (v : Value) V V' hx ⟨sv, h1, h2⟩ => ⟨sv, h1, NdOk.ext hx _ _ h2⟩).cons fun (v : Value) V V' hx ⟨sv, h1, h2⟩ => ⟨sv, h1, NdOk.ext hx _ _ h2⟩).cons fun (v : Value) V V' hx ⟨sv, h1, h2⟩ => ⟨sv, h1, NdOk.ext hx _ _ h2⟩).cons fun (v : Value) V V' hx ⟨sv, h1, h2⟩ => ⟨sv, h1, NdOk.ext hx _ _ h2⟩).cons fun (v : Value) V V' hx ⟨sv, h1, h2⟩ => ⟨sv, h1, NdOk.ext hx _ _ h2⟩).cons fun (v : Value) V V' hx ⟨sv, h1, h2⟩ => ⟨sv, h1, NdOk.ext hx _ _ h2⟩).cons fun (v : Value) V V' hx ⟨sv, h1, h2⟩ => ⟨sv, h1, NdOk.ext hx _ _ h2⟩).cons fun (v : Value) V V' hx ⟨sv, h1, h2⟩ => ⟨sv, h1, NdOk.ext hx _ _ h2⟩).cons fun (v : Value) V V' hx ⟨sv, h1, h2⟩ => ⟨sv, h1, NdOk.ext hx _ _ h2⟩) T (fun _ => undef) (hT _) (by kernel_rfl) (by kernel_rfl) (by kernel_rfl) (by kernel_rfl) (by kernel_rfl) (by kernel_rfl) ?_
    simp only [List.take_succ_cons, List.take_zero, List.drop_succ_cons, List.drop_zero, AllS, Nat.reduceAdd]
    refine ⟨⟨?_, ?_, ?_, ?_, ?_, ?_, ?_, ?_, ?_, ?_, ?_, ?_, trivial⟩, ?_⟩
    · intro u W' hx hd'
      clear hd'
      rw [hT u]
      have HOY := Lib.hid (NdOk.ext hx _ _ OK1.out)
      go_wp2_with (refine wpl_loadNd rfl _ rfl z3 0 (leafN 97).h sv1 rfl (HZ3.out.ext hx).nd ?_)
      exact stepQ_mk ⟨Ext.refl _, _, by first | (rw [hT]; simp [updN]) | simp [updN], ⟨sv1, rfl, HOY.out⟩⟩
    · intro u W' hx hd'
      obtain ⟨sw0, e0, ok0⟩ := hd' 0 (mem_of (by kernel_rfl))
      clear hd'
      rw [hT u, e0]
      have HCY := Lib.hid (show Calls _ _ _ W' (RetNd W' (stN (leafN 97))) from rep_any (leafN 97) sw0 0 (-1) W' ok0 (lv_small _ (by simp [leafN, leftN, leftL])))
      go_wp2_with (go_at_call 20; refine HCY.out.mono ?_; rintro e w6 ⟨sv6, rfl, hn6, hx6⟩)
      exact stepQ_mk ⟨hx6, _, by first | (rw [hT]; simp [updN, e0]) | simp [updN, e0], ⟨sv6, rfl, hn6.ok⟩⟩
    · intro u W' hx hd'
      obtain ⟨sw1, e1, ok1⟩ := hd' 1 (mem_of (by kernel_rfl))
      clear hd'
      rw [hT u, e1]
      have HCY := Lib.hid (show Calls _ _ _ W' (RetNd W' (lvA)) from tgroup_any 1 (stN (leafN 97)) sw1 W' ok1 (lv_small _ (by simp [stN, leafN, leftN, leftL])))
      go_wp2_with (go_at_call 19; refine HCY.out.mono ?_; rintro e w6 ⟨sv6, rfl, hn6, hx6⟩)
      exact stepQ_mk ⟨hx6, _, by first | (rw [hT]; simp [updN, e1]) | simp [updN, e1], ⟨sv6, rfl, hn6.ok⟩⟩
    · intro u W' hx hd'
      clear hd'
      rw [hT u]
      have HCY := Lib.hid (show Calls _ _ _ W' (RetNd W' (textN [97, 98])) from text_any ⟨#[97, 98]⟩ W' (by decide))
      go_wp2_with (go_at_call 17; refine HCY.out.mono ?_; rintro e w6 ⟨sv6, rfl, hn6, hx6⟩)
      exact stepQ_mk ⟨hx6, _, by first | (rw [hT]; simp [updN]) | simp [updN], ⟨sv6, rfl, hn6.ok⟩⟩
    · intro u W' hx hd'
      obtain ⟨sw3, e3, ok3⟩ := hd' 3 (mem_of (by kernel_rfl))
      clear hd'
      rw [hT u, e3]
      have HCY := Lib.hid (show Calls _ _ _ W' (RetNd W' (lvG)) from tgroup_any 2 (textN [97, 98]) sw3 W' ok3 (lv_small _ (by simp [lv_text, leafN, leftN, leftL])))
      go_wp2_with (go_at_call 19; refine HCY.out.mono ?_; rintro e w6 ⟨sv6, rfl, hn6, hx6⟩)
      exact stepQ_mk ⟨hx6, _, by first | (rw [hT]; simp [updN, e3]) | simp [updN, e3], ⟨sv6, rfl, hn6.ok⟩⟩
    · intro u W' hx hd'
      obtain ⟨sw4, e4, ok4⟩ := hd' 4 (mem_of (by kernel_rfl))
      clear hd'
      rw [hT u, e4]
      have HCY := Lib.hid (show Calls _ _ _ W' (RetNd W' (stN lvG)) from rep_any lvG sw4 0 (-1) W' ok4 (lv_small _ (by simp [lvG, gpN, lv_text, leafN, leftN, leftL])))
      go_wp2_with (go_at_call 20; refine HCY.out.mono ?_; rintro e w6 ⟨sv6, rfl, hn6, hx6⟩)
      exact stepQ_mk ⟨hx6, _, by first | (rw [hT]; simp [updN, e4]) | simp [updN, e4], ⟨sv6, rfl, hn6.ok⟩⟩
    · intro u W' hx hd'
      clear hd'
      rw [hT u]
      have HOY := Lib.hid (NdOk.ext hx _ _ OK2.out)
      go_wp2_with (refine wpl_loadNd rfl _ rfl z4 0 (leafN 98).h sv2 rfl (HZ4.out.ext hx).nd ?_)
      exact stepQ_mk ⟨Ext.refl _, _, by first | (rw [hT]; simp [updN]) | simp [updN], ⟨sv2, rfl, HOY.out⟩⟩
    · intro u W' hx hd'
      obtain ⟨sw6, e6, ok6⟩ := hd' 6 (mem_of (by kernel_rfl))
      clear hd'
      rw [hT u, e6]
      have HCY := Lib.hid (show Calls _ _ _ W' (RetNd W' (stN (leafN 98))) from rep_any (leafN 98) sw6 0 (-1) W' ok6 (lv_small _ (by simp [leafN, leftN, leftL])))
      go_wp2_with (go_at_call 20; refine HCY.out.mono ?_; rintro e w6 ⟨sv6, rfl, hn6, hx6⟩)
      exact stepQ_mk ⟨hx6, _, by first | (rw [hT]; simp [updN, e6]) | simp [updN, e6], ⟨sv6, rfl, hn6.ok⟩⟩
    · intro u W' hx hd'
      obtain ⟨sw7, e7, ok7⟩ := hd' 7 (mem_of (by kernel_rfl))
      clear hd'
      rw [hT u, e7]
      have HCY := Lib.hid (show Calls _ _ _ W' (RetNd W' (lvB)) from tgroup_any 3 (stN (leafN 98)) sw7 W' ok7 (lv_small _ (by simp [stN, leafN, leftN, leftL])))
      go_wp2_with (go_at_call 19; refine HCY.out.mono ?_; rintro e w6 ⟨sv6, rfl, hn6, hx6⟩)
      exact stepQ_mk ⟨hx6, _, by first | (rw [hT]; simp [updN, e7]) | simp [updN, e7], ⟨sv6, rfl, hn6.ok⟩⟩
    · intro u W' hx hd'
      obtain ⟨sw2, e2, ok2⟩ := hd' 2 (mem_of (by kernel_rfl))
      obtain ⟨sw5, e5, ok5⟩ := hd' 5 (mem_of (by kernel_rfl))
      obtain ⟨sw8, e8, ok8⟩ := hd' 8 (mem_of (by kernel_rfl))
      clear hd'
      rw [hT u, e2, e5, e8]
      have HK2 := Lib.hid ok2
      have HK5 := Lib.hid ok5
      have HK8 := Lib.hid ok8
      go_wp2_with (refine wpl_threeNd rfl _ _ _ rfl lvA.h (stN lvG).h lvB.h sw2 sw5 sw8 rfl rfl rfl ?_; intro g6 w6 h61 h62 h63 hx6 e6)
      exact stepQ_mk ⟨hx6, .slice (some ⟨g6, 0, none⟩) 3 3, by first | (rw [hT]; simp [updN, e2, e5, e8]) | simp [updN, e2, e5, e8], NdOk.three (h := hdV 0) h61 (NdOk.ext hx6 _ _ HK2.out) h62 (NdOk.ext hx6 _ _ HK5.out) h63 (NdOk.ext hx6 _ _ HK8.out)⟩
    · intro u W' hx hd'
      have ok9 : NdOk W' (.mk (hdV 0) [lvA, stN lvG, lvB]) (u 9) := hd' 9 (mem_of (by kernel_rfl))
      clear hd'
      rw [hT u]
      have HCY := Lib.hid (show Calls _ _ _ W' (RetNd W' lvT) from seq_any [lvA, stN lvG, lvB] _ W' ok9 (lv_small _ (by simp [lvA, lvG, lvB, gpN, stN, lv_text, leafN, leftN, leftL])))
      obtain ⟨A9, c9, e9⟩ := ok9.shape
      clear ok9
      rw [e9] at HCY ⊢
      go_wp2_with (go_at_call 18; refine HCY.out.mono ?_; rintro e w6 ⟨sv6, rfl, hn6, hx6⟩)
      exact stepQ_mk ⟨hx6, _, by first | (rw [hT]; simp [updN, e9]) | simp [updN, e9], ⟨sv6, rfl, hn6.capZ lv_form⟩⟩
    · intro u W' hx hd'
      clear hd'
      rw [hT u]
      go_wp2_with (refine wpl_allocNd rfl rfl ?_; intro z6 w6 hz6 hx6 e6 s6)
      exact stepQ_mk ⟨hx6, .pointer (some ⟨z6, 0, none⟩), by first | (rw [hT]; simp [updN]) | simp [updN], ⟨z6, rfl, hz6, Nat.le_trans hx.size e6⟩⟩
    · intro u W' hx hp
      obtain ⟨sw, e10, hcz⟩ := hp 10 (by omega)
      obtain ⟨z, e11, hz, hze⟩ := hp 11 (by omega)
      clear hp
      rw [hT u, e10, e11]
      have hsl := hcz.1.ok.sl
      go_wp2_with (refine wpl_storeNd rfl _ _ rfl rfl z lvT.h _ sw _ rfl rfl hsl hz ?_; intro w7 hz7 hk7)
      go_meet
      case rel => exact ⟨z, sw, rfl, hz7, hcz.2 z w7 hk7 (hz.cell 0), hx.keep1 hk7 hze⟩
  obtain ⟨z, sv, rfl, hz, hcap, hx67⟩ := hcut
  obtain ⟨w7, hw7⟩ : ∃ w, w = wc := ⟨_, rfl⟩
  subst hw7
  have hx7 := HX6.out.trans hx67
  have HX7 := Lib.hid hx7
  have HEw := Lib.hid (HE.out.ext hx7)
  have HVw := Lib.hid (hx7.cell HV.out)
  have HTw := Lib.hid (HTB.out.ext hx7)
  have he4 : nodeA lvT.h sv = #[.int .i64 5, .int .u64 0, .int .u64 0, .int .u64 0, .int .u64 0, sv, .int .i64 0, .int .i64 0, .int .i64 0, .bool false] := by
    simp only [nodeA, nodeC, lvT, hdV, Nd.h]
    rfl
  have he5 : nodeV lvT.h sv = .agg #[.int .i64 5, .int .u64 0, .int .u64 0, .int .u64 0, .int .u64 0, sv, .int .i64 0, .int .i64 0, .int .i64 0, .bool false] := by
    simp only [nodeV, lvT, hdV, Nd.h]
    rfl
  rw [he4] at hz
  have HNew := Lib.hid (fun W => new_any lvS 0 0 W (by decide))
  have HFn : Hid (∀ W p (_ : Ext w7 W) (_ : IsScene W p lvS (mkAt lvS 0 0 lvS.size)), Calls Tryz.prog 8 #[.agg #[.int .i64 5, .int .u64 0, .int .u64 0, .int .u64 0, .int .u64 0, sv, .int .i64 0, .int .i64 0, .int .i64 0, .bool false], p, .int .i64 0, .int .i64 3] W fun r w' => ∃ g cp, r = .returned (.tuple #[.slice (some ⟨g, 0, none⟩) 4 cp, .bool true, .nilIface]) ∧ OwnSp w' W.heap.size (.slice (some ⟨g, 0, none⟩) 4 cp) [(0, 3), (0, 1), (-1, -1), (1, 3)] ∧ Ext W w') := Lib.hid (fun W p hW hs => by
    have h := find_any (x := p) lvT sv 0 3 W A 100 (NdCap.ext hW hcap) hs (HTw.out.ext hW) (HEw.out.ext hW) (hW.cell HVw.out) (by omega) lv_few (fun _ => ⟨by decide, by decide⟩) (by decide)
    rw [he5] at h
    refine h.mono fun r w' hr => ?_
    have hk : askN lvT lvS.size 3 [0] = 0 := by unfold askN; rw [lv_chk]; decide
    rcases hr with ⟨h0, _⟩ | ⟨_, h1, _⟩ | ⟨_, l, g, c, h1, h2, h3, h4⟩
    · exact absurd hk h0
    · rw [show (0 : Int).toNat = 0 from rfl, show (3 : Int).toNat = 3 from rfl, lv_find] at h1; cases h1
    · rw [show (0 : Int).toNat = 0 from rfl, show (3 : Int).toNat = 3 from rfl, lv_find] at h1
      simp only [Option.some.injEq] at h1
      subst h1
      exact ⟨g, c, h2, h3, h4⟩)
  have KS := Lib.hid (fun w' (hw' : Ext w7 w') => (⟨(hz.ext hw').cell 0, (hz.ext hw').cell 1, (hz.ext hw').cell 2, (hz.ext hw').cell 3, (hz.ext hw').cell 4, (hz.ext hw').cell 5, (hz.ext hw').cell 6, (hz.ext hw').cell 7, (hz.ext hw').cell 8, (hz.ext hw').cell 9⟩ :
    (w'.cell? ⟨z, 0, none⟩ = some (.int .i64 5) ∧ w'.cell? ⟨z, 1, none⟩ = some (.int .u64 0) ∧ w'.cell? ⟨z, 2, none⟩ = some (.int .u64 0) ∧ w'.cell? ⟨z, 3, none⟩ = some (.int .u64 0) ∧ w'.cell? ⟨z, 4, none⟩ = some (.int .u64 0) ∧ w'.cell? ⟨z, 5, none⟩ = some sv ∧ w'.cell? ⟨z, 6, none⟩ = some (.int .i64 0) ∧ w'.cell? ⟨z, 7, none⟩ = some (.int .i64 0) ∧ w'.cell? ⟨z, 8, none⟩ = some (.int .i64 0) ∧ w'.cell? ⟨z, 9, none⟩ = some (.bool false))))
  obtain ⟨A5, c5, hsv, _⟩ := hcap
  simp only [List.length_cons, List.length_nil] at hsv
  subst hsv
  clear hz he4 he5 hx67 hx7 HEw HVw HTw OK1 OK2 HZ3 HZ4
  go_upto_region 3 with fail
  go_region_held3 (fun w' => w'.cell? ⟨z, 0, none⟩ = some (.int .i64 5) ∧ w'.cell? ⟨z, 1, none⟩ = some (.int .u64 0) ∧ w'.cell? ⟨z, 2, none⟩ = some (.int .u64 0) ∧ w'.cell? ⟨z, 3, none⟩ = some (.int .u64 0) ∧ w'.cell? ⟨z, 4, none⟩ = some (.int .u64 0) ∧ w'.cell? ⟨z, 5, none⟩ = some (.slice A5 3 c5) ∧ w'.cell? ⟨z, 6, none⟩ = some (.int .i64 0) ∧ w'.cell? ⟨z, 7, none⟩ = some (.int .i64 0) ∧ w'.cell? ⟨z, 8, none⟩ = some (.int .i64 0) ∧ w'.cell? ⟨z, 9, none⟩ = some (.bool false))
    ((first | exact KS.out _ (Ext.refl _).drew | exact KS.out _ hX9 | exact KS.out _ hX8))
    (first
      | (go_at_call 7; refine (HNew.out _).mono ?_; rintro e w8 ⟨⟨xv, rfl, hsN⟩, hx8⟩; have hX8 : Ext w7 w8 := (Ext.refl w7).drewr.trans hx8)
      | (go_at_call 8; refine (HFn.out _ xv hX8 hsN).mono ?_; rintro e w9 ⟨g9, c9, rfl, hO9, hx9⟩; have hX9 : Ext w7 w9 := hX8.trans hx9))
  all_goals
    have hR9 := RdSn.of_own hO9
    have HSm := Lib.hid (fun W g (hW : Ext w9 W) (hB : Blk W g 52 #[.int .i64 0, .int .i64 3, .int .i64 0, .int .i64 1, .int .i64 (-1), .int .i64 (-1), .int .i64 1, .int .i64 3]) => sameSpans_any _ _ _ _ W (by decide) (hR9.ext hW) (lit4 hB))
    have hX := HX7.out.trans hX9
    clear hsN hx8 hX8 hx9 hX9 hR9 hO9 HFn HNew KS HX7
    go_wp2_with (first
      | (go_at_call 12; ((with_reducible refine (HSm.out _ _ ((Ext.refl w9).alloc _) (Blk.new w9 _ _)).mono ?_); rintro e w10 ⟨rfl, hx10⟩; have hX10 : Ext w9 w10 := ((Ext.refl w9).alloc _).trans hx10)))
    go_ret
    exact ⟨rfl, hX.trans hX10⟩

end Go.Proofs.YtgfknlkpdiejgaaGreatDoor

namespace Go.Proofs.YtgfknlkpdiejgaaGreatDoor
open Go Go.RowKit

theorem madeW_row (n : Nat) (hn : n ≤ 250000000000000) (W : World) : (Instr.makeSlice 60 (.int .i64 (n : Int)) (.int .i64 (n : Int))).run Tryz.prog W =
    .ok (.slice (some ⟨W.heap.size, 0, none⟩) n n) (W.alloc (.cells (u8s (List.replicate n 0)) 5)) := by
  obtain ⟨i0, hi0, hz0, hz1, hz2⟩ := info_parts info_u8
  have := run_make (P := Tryz.prog) W 60 5 i0 (.int .u8 0) Tryz.underlying60 hi0 hz0 .i64 .i64 (n : Int) (n : Int) (by omega) (by omega) (by rw [hz2]; omega) (by omega)
  rw [this]
  rw [Int.toNat_natCast, hz1, Nat.mul_one]
  simp [Value.cells, made_u8]

set_option maxHeartbeats 2000000 in
theorem newW_any (s : ByteArray) (c e : Int) (w : World) (hs : s.size ≤ 200000000000000) :
    Calls Tryz.prog 7 #[.string s, .int .i64 c, .int .i64 e] w fun r w' => (∃ p, r = .returned p ∧ IsScene w' p s (mkAt s c e s.size)) ∧ Ext w w' := by
  have hmk := fun W => madeW_row (s.size + 1) (by omega) W
  simp only [Int.natCast_add, Int.cast_ofNat_Int] at hmk
  go_enter Tryz.func7, Tryz.ntmps7
  go_upto_region 1 with fail
  go_cut [7] (fun p wx => ∃ g g', p = .pointer (some ⟨g, 0, none⟩) ∧ Blk wx g 62 #[.string s, .slice (some ⟨g', 0, none⟩) (s.size + 1) (s.size + 1)] ∧ Blk wx g' 5 (u8s (List.replicate (s.size + 1) 0)) ∧ Ext w wx ∧ w.heap.size ≤ g' ∧ w.heap.size ≤ g)
  case first =>
    go_wp2
    go_meet
    case rel =>
      exact ⟨w.heap.size + 1, w.heap.size, rfl, by simpa using Blk.new (w.alloc _) 62 _, (Blk.new w 5 _).alloc _, ((Ext.refl w).alloc _).alloc _, by omega, by omega⟩
  case rest =>
    obtain ⟨g, g', rfl, h1, h2, hx, hg, hg'⟩ := hcut
    have hne : g ≠ g' := h1.ne h2 (by decide)
    clear hmk
    have hn : 0 < s.size + 1 := by omega
    go_upto_if 18 with fail
    go_cut [] (fun wx => Blk wx g 62 #[.string s, .slice (some ⟨g', 0, none⟩) (s.size + 1) (s.size + 1)] ∧ Blk wx g' 5 (u8s (if (bits .and .i64 e 1 == 0) = true then (List.replicate (s.size + 1) 0).set 0 1 else List.replicate (s.size + 1) 0)) ∧ Ext w wx)
    case first =>
      by_cases b1 : (bits .and .i64 e 1 == 0) = true
      · have c1 := h1.cell 1
        simp at c1
        have c2 := h2.cell 0
        rw [u8s_get _ _ (by simp)] at c2
        simp at c2
        have f2 := h2.frozen 0
        go_wp2
        go_meet
        case rel =>
          rw [if_pos b1]
          refine ⟨h1.far (by exact hne) _, ?_, hx.setCell (by exact hg) _⟩
          rw [← u8s_set]
          exact h2.set 0 _
      · go_wp2
        go_meet
        case rel =>
          rw [if_neg b1]
          exact ⟨h1, h2, hx⟩
    case rest =>
      obtain ⟨h1, h2, hx⟩ := hcut
      generalize hl1 : (if (bits .and .i64 e 1 == 0) = true then (List.replicate (s.size + 1) 0).set 0 1 else List.replicate (s.size + 1) (0 : UInt8)) = l1 at h2
      have hlen : s.size < l1.length := by subst hl1; split <;> simp
      have HL1 := Lib.hid hl1; clear hl1
      go_upto_if 29 with fail
      go_cut [] (fun wx => Blk wx g 62 #[.string s, .slice (some ⟨g', 0, none⟩) (s.size + 1) (s.size + 1)] ∧ Blk wx g' 5 (u8s (if (bits .and .i64 e 2 == 0) = true then l1.set s.size (l1.getD s.size 0 ||| 2) else l1)) ∧ Ext w wx)
      case first =>
        by_cases b1 : (bits .and .i64 e 2 == 0) = true
        · have c1 := h1.cell 1
          simp at c1
          have c2 := h2.cell s.size
          rw [u8s_get _ _ hlen] at c2
          have f2 := h2.frozen s.size
          generalize hy : l1.getD s.size 0 = y at *
          have HY := Lib.hid hy; clear hy
          go_wp2
          go_meet
          case rel =>
            rw [if_pos b1]
            refine ⟨h1.far (by exact hne) _, ?_, hx.setCell (by exact hg) _⟩
            rw [← u8s_set, ← or2]
            exact h2.set s.size _
        · go_wp2
          go_meet
          case rel =>
            rw [if_neg b1]
            exact ⟨h1, h2, hx⟩
      case rest =>
        obtain ⟨h1, h2, hx⟩ := hcut
        rw [mkAt_start s c e l1 HL1.out] at h2
        clear HL1
        go_wp2
        go_loopw [8] (fun i wr => ∃ k : Nat, k ≤ s.size ∧ i = .int .i64 k ∧ Blk wr g 62 #[.string s, .slice (some ⟨g', 0, none⟩) (s.size + 1) (s.size + 1)] ∧ Blk wr g' 5 (u8s (mkAt s c e k)) ∧ Ext w wr) (fun i _ => s.size - (intOf i).toNat)
        case atStart => exact ⟨0, Nat.zero_le _, rfl, h1, h2, hx⟩
        case round =>
          clear h1 h2 hx
          obtain ⟨k, hk, rfl, h1, h2, hx⟩ := hrel
          by_cases hlt : k < s.size
          · cases hb1 : (bits .and .i64 c 4 == 0)
            · have hb2 : (bits .and .i64 c 4 != 0) = true := by simpa using hb1
              have hlen : k < (mkAt s c e k).length := by simp; omega
              have hlen1 : k + 1 < (mkAt s c e k).length := by simp; omega
              have HC := Lib.hid hb1
              clear hb1
              by_cases hb : s[k].toNat = 10
              · have hb3 : ((s[k].toNat : Int) == 10) = true := by rw [hb]; rfl
                have HK := Lib.hid (mkAt_hit s c e k hlt HC.out (by rw [getD_byte s k hlt]; exact UInt8.toNat_inj.1 hb))
                clear hb
                have c1 := h1.cell 1
                simp at c1
                have c2 := h2.cell k
                rw [u8s_get _ _ hlen] at c2
                have f2 := h2.frozen k
                have c3 := h2.cell (k + 1)
                rw [u8s_get _ _ hlen1] at c3
                have f3 := h2.frozen (k + 1)
                generalize hy : (mkAt s c e k).getD k 0 = y at *
                have HY := Lib.hid hy; clear hy
                generalize hz : (mkAt s c e k).getD (k + 1) 0 = z at *
                have HZ := Lib.hid hz; clear hz
                go_wp2
                go_roundw
                case rel =>
                  refine ⟨k + 1, hlt, by go_num, (h1.far (by exact hne) _).far (by exact hne) _, ?_, (hx.setCell (by exact hg) _).setCell (by exact hg) _⟩
                  have K := HK.out
                  rw [← K, ← u8s_set, ← u8s_set, ← or2, ← or1]
                  exact (h2.set k _).set (k + 1) _
                case measure => simp [intOf]; omega
              · have hb3 : ((s[k].toNat : Int) == 10) = false := by rw [beq_eq_false_iff_ne]; omega
                have HK := Lib.hid (mkAt_miss s c e k (by rw [getD_byte s k hlt]; intro h; exact hb (by rw [h]; rfl)))
                clear hb
                go_wp2
                go_roundw
                case rel =>
                  refine ⟨k + 1, hlt, by go_num, h1, ?_, hx⟩
                  rw [← HK.out]; exact h2
                case measure => simp [intOf]; omega
            · have hb2 : (bits .and .i64 c 4 != 0) = false := by simpa using hb1
              have HC := Lib.hid hb1
              clear hb1
              go_wp2
              go_ret
              exact ⟨⟨_, rfl, g, g', rfl, by simpa using h1, by rw [mkAt_off s c e s.size k HC.out]; exact h2⟩, hx⟩
          · have hks : k = s.size := by omega
            have HKS := Lib.hid hks; clear hks
            go_wp2
            go_ret
            exact ⟨⟨_, rfl, g, g', rfl, by simpa using h1, by rw [← HKS.out]; exact h2⟩, hx⟩


end Go.Proofs.YtgfknlkpdiejgaaGreatDoor
