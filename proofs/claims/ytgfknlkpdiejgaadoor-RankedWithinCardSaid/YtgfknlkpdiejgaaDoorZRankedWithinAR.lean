/- The law for drawn regions whose operations write to slots anywhere: as InvZ's wp_region_predz, the state given as a function of what the operations leave. No program. The fixed fact of layer 22's statements as a contract. Condition: the error values and the library's table lie where they lie. A new span, the store into it; a beginning of a slice of spans. No condition. RankedWithin as a walk. Condition: the tree lies in memory; the error values and the library's table lie where they lie. -/
import Derived.Test.YtgfknlkpdiejgaaDoorZRankedWithinAK
import Derived.Test.YtgfknlkpdiejgaaDoorZRankedWithinAO
import Derived.Test.YtgfknlkpdiejgaaDoorZRankedWithinAP
import Derived.Test.YtgfknlkpdiejgaaDoorZRankedWithinAQ
import Derived.Great.BuildSlice
import Derived.Deep.RegionHeld3
import Derived.Test.YtgfknlkpdiejgaaDoorNodeW
import Derived.Test.YtgfknlkpdiejgaaDoorZRankedWithinAC
import Derived.BigQuiet
namespace Go.Proofs.YtgfknlkpdiejgaaDoor
open Go Go.RowKit

theorem wp_region_predT {P : Program} {Q : Exit → Act → World → Prop} {id : Nat} {l : List Oper} {a0 : Act} {w : World} (n : Nat) (tg : List (Value → World → Prop)) (hst : Lasts tg) (T : (Nat → Value) → Act) (u0 : Nat → Value) (h0 : T u0 = a0) (hm : P.follows .mixedOrders = true) (hn0 : decide (n < l.toArray.size) = true)
    (hback : (List.range l.toArray.size).all (fun i => (depsL .any l.toArray i).all (decide <| · < i)) = true)
    (hs : Region.sinkB .any l.toArray n = true) (hc : Region.chainB .any l.toArray n = true) (hq : Region.seqB .any l.toArray (l.toArray.size - n) n (headA l.toArray.size n) = true)
    (h : AllS (fun i o => ∀ u W, Ext w W → (∀ j ∈ depsL .any l.toArray i, postP tg j (u j) W) → wpList P l.toArray (stepQ fun a' W' => Ext W W' ∧ ∃ v, a' = T (updN u i v) ∧ postP tg i v W') [o] (T u) W) 0 (l.take n) ∧
      ∀ u W, Ext w W → (∀ j, j < n → postP tg j (u j) W) → wpList P l.toArray Q (l.drop n) (T u) W) : (Code.region id l.toArray true).wp P Q a0 w := by
  obtain ⟨h1, h2⟩ := h
  refine wp_region_any hm ?_
  rw [← h0]
  refine wpAny_invz (w0 := w) n (of_decide_eq_true hn0) T (postP tg) (fun i v W W' hx hp => ?_) hback hs hc hq (fun i o hi ho => ?_) (fun u W hx hp => h2 u W hx hp) l.toArray.size (Array.replicate l.toArray.size false) u0 _ (Ext.refl w).drew ⟨by simp, fun j oj _ hl => (by rw [getD_replicate_false] at hl; cases hl), fun t _ ht => getD_in (by simpa using ht) (getD_replicate_false _ _)⟩ ?_ (fun j _ hl => ?_)
  · unfold postP at *
    cases e : tg[i]? with
    | none => trivial
    | some q =>
      rw [e] at hp
      exact hst q (List.mem_of_getElem? e) v W W' hx hp
  · have := AllS.get _ 0 h1 i o (by rw [List.getElem?_take, if_pos hi]; simpa using ho)
    rw [Nat.zero_add] at this
    exact this
  · rw [Array.toList_replicate]
    unfold cntF
    rw [List.filter_replicate]
    simp
  · rw [getD_replicate_false] at hl
    cases hl

end Go.Proofs.YtgfknlkpdiejgaaDoor

namespace Go.Proofs.YtgfknlkpdiejgaaDoor
open Go Go.RowKit

section
variable {ops : Array Oper} {rest : List Oper} {o : Oper} {a : Act} {w : World} {Q : Exit → Act → World → Prop}
/-- A list literal of three nodes. -/
theorem wpl_threeNd (hgd : o.guard = none) (x y z : Operand) (ho : o.op = .buildSlice 25 3 #[(0, x), (1, y), (2, z)]) (h h' h'' : Hd) (sv sv' sv'' : Value) (hx : a.eval x = nodeV h sv) (hy : a.eval y = nodeV h' sv') (hz' : a.eval z = nodeV h'' sv'')
    (hK : ∀ g w1, NdAt w1 g 0 h sv → NdAt w1 g 10 h' sv' → NdAt w1 g 20 h'' sv'' → Ext w w1 → w.heap.size ≤ g → wpList Tryd.prog ops Q rest (a.put o.dst (.slice (some ⟨g, 0, none⟩) 3 3)) w1) : wpList Tryd.prog ops Q (o :: rest) a w := by
  obtain ⟨i, hi, hz⟩ := Option.map_eq_some_iff.1 zero_nd
  have hs : i.size = 10 := by have := info_nd; rw [hi] at this; simpa using this
  have hb : ∀ j, j < 30 → (w.alloc (.cells ((nodeC h sv ++ (nodeC h' sv' ++ nodeC h'' sv'')).toArray) 27)).cell? ⟨w.heap.size, j, none⟩ = (nodeC h sv ++ (nodeC h' sv' ++ nodeC h'' sv''))[j]? := fun j _ => by
    rw [(Blk.new w _ _).cell]; simp
  refine wpList_buildSlice hgd 25 27 3 _ ho ((nodeC h sv ++ (nodeC h' sv' ++ nodeC h'' sv'')).toArray) i _ Tryd.underlying25 hi hz (by rw [hs]; decide) (by rw [hs]; decide) ?_ (hK _ _ (fun j hj => by
      rw [Nat.zero_add, hb j (by omega), List.getElem?_append_left (by rw [nodeC_len]; omega)]) (fun j hj => by
      rw [hb (10 + j) (by omega), List.getElem?_append_right (by rw [nodeC_len]; omega), nodeC_len, Nat.add_sub_cancel_left, List.getElem?_append_left (by rw [nodeC_len]; omega)]) (fun j hj => by
      rw [hb (20 + j) (by omega), List.getElem?_append_right (by rw [nodeC_len]; omega), nodeC_len, List.getElem?_append_right (by rw [nodeC_len]; omega), nodeC_len, show 20 + j - 10 - 10 = j by omega]) ((Ext.refl w).alloc _) (Nat.le_refl _))
  rw [hs]
  have hf := Great.fill_whole (s := 10) (by decide) [nodeV h sv, nodeV h' sv', nodeV h'' sv''] ((Array.range (3 * 10)).map ((nodeV ⟨0, fun _ => false, 0, 0, 0, false⟩ (.slice none 0 0)).cells[· % (nodeV ⟨0, fun _ => false, 0, 0, 0, false⟩ (.slice none 0 0)).cells.size]!)) (fun v hv => by
    simp only [List.mem_cons, List.not_mem_nil, or_false] at hv
    rcases hv with rfl | rfl | rfl <;> rfl) (by simp)
  have e : (List.map (fun x => (x.2, x.1)) ([nodeV h sv, nodeV h' sv', nodeV h'' sv''].zipIdx 0)) = (Array.map (fun x => (x.1, a.eval x.2)) #[(0, x), (1, y), (2, z)]).toList := by simp [hx, hy, hz', List.zipIdx]
  rw [e] at hf
  rw [hf]
  simp [nodeV_eq, Value.cells, nodeA]
end
theorem NdOk.three {W : World} {n n' n'' : Nd} {h : Hd} {g c : Nat} {sv sv' sv'' : Value} (ha : NdAt W g 0 n.h sv) (hn : NdOk W n sv) (ha' : NdAt W g 10 n'.h sv') (hn' : NdOk W n' sv') (ha'' : NdAt W g 20 n''.h sv'') (hn'' : NdOk W n'' sv'') : NdOk W (.mk h [n, n', n'']) (.slice (some ⟨g, 0, none⟩) 3 c) := by
  unfold NdOk
  refine ⟨_, c, rfl, ⟨g, 0, sv, rfl, fun i hi => ?_, hn⟩, ⟨g, 0, sv', rfl, fun i hi => ?_, hn'⟩, ⟨g, 0, sv'', rfl, fun i hi => ?_, hn''⟩, trivial⟩
  · have := ha i hi
    rwa [Nat.zero_add] at this ⊢
  · have := ha' i hi
    rwa [show 0 + (0 + 1) * 10 + i = 10 + i by omega]
  · have := ha'' i hi
    rwa [show 0 + (0 + 1 + 1) * 10 + i = 20 + i by omega]

theorem lit4 {W : World} {g : Nat} {t : TypeId} (hB : Blk W g t #[.int .i64 0, .int .i64 3, .int .i64 0, .int .i64 1, .int .i64 (-1), .int .i64 (-1), .int .i64 1, .int .i64 3]) : RdSn W (.slice (some ⟨g, 0, none⟩) 4 4) [(0, 3), (0, 1), (-1, -1), (1, 3)] := by
  refine ⟨_, 4, rfl, fun j hj => ⟨g, 0, rfl, ?_⟩⟩
  have hj' : j = 0 ∨ j = 1 ∨ j = 2 ∨ j = 3 := by simp at hj; omega
  rcases hj' with rfl | rfl | rfl | rfl <;> exact ⟨by rw [hB.cell]; rfl, by rw [hB.cell]; rfl⟩

set_option maxRecDepth 100000 in
set_option maxHeartbeats 16000000 in
theorem lives22_any (w : World) (A : Nat → Addr) (hE : Err3 w A) (v14 : w.cell? ⟨3, 0, none⟩ = some (errV (A 14))) (hT : Tab w) :
    Calls Tryd.prog 4 #[] w fun r w' => r = .returned (.bool true) ∧ Ext w w' := by
  have HT97 : Hid (∀ W, Calls Tryd.prog 10 #[.string ⟨#[97]⟩] W (RetNd W (leafN 97))) := Lib.hid (fun W => text_any ⟨#[97]⟩ W (by decide))
  have HT98 : Hid (∀ W, Calls Tryd.prog 10 #[.string ⟨#[98]⟩] W (RetNd W (leafN 98))) := Lib.hid (fun W => text_any ⟨#[98]⟩ W (by decide))
  have HE := Lib.hid hE
  have HV := Lib.hid v14
  have HTB := Lib.hid hT
  clear hE v14 hT
  go_enter Tryd.func4, Tryd.ntmps4
  go_upto_region 2 with (first
    | (go_at_call 10; ((with_reducible refine (HT98.out _).mono ?_); rintro e w2 ⟨sv2, rfl, hn2, hx2⟩))
    | (go_at_call 10; ((with_reducible refine (HT97.out _).mono ?_); rintro e w1 ⟨sv1, rfl, hn1, hx1⟩))
    | (have := s3; refine wpl_allocNd rfl rfl ?_; intro z4 w4 hz4 hx4 e4 s4)
    | (refine wpl_allocNd rfl rfl ?_; intro z3 w3 hz3 hx3 e3 s3)
    | (refine wpl_storeNd rfl _ _ rfl rfl z3 (leafN 97).h _ sv1 _ rfl rfl hn1.ok.sl (hz3.ext hx4) ?_; intro w5 hz5 hk5)
    | (refine wpl_storeNd rfl _ _ rfl rfl z4 (leafN 98).h _ sv2 _ rfl rfl hn2.ok.sl (hz4.keep1 hk5 (by omega)) ?_; intro w6 hz6 hk6))
  have OK1 := Lib.hid (NdOk.ext ((((hx2.trans hx3).trans hx4).keep1 hk5 (by have := hx2.size; omega)).keep1 hk6 (by have := hx2.size; have := hx3.size; omega)) _ _ hn1.ok)
  have OK2 := Lib.hid (NdOk.ext (((hx3.trans hx4).keep1 hk5 (by omega)).keep1 hk6 (by have := hx3.size; omega)) _ _ hn2.ok)
  have HZ3 := Lib.hid (hz5.keep1 hk6 (by omega))
  have HZ4 := Lib.hid hz6
  have hx06 := ((((hx1.trans hx2).trans hx3).trans hx4).keep1 hk5 (by have := hx1.size; have := hx2.size; omega)).keep1 hk6 (by have := hx1.size; have := hx2.size; have := hx3.size; omega)
  have HX6 := Lib.hid hx06
  clear hn1 hn2 hx1 hx2 hx3 hx4 hk5 hk6 hz3 hz4 hz5 hz6 e3 s3 e4 s4 hx06 HT97 HT98
  simp only [Act.put, List.setIfInBounds_toArray, List.set_cons_zero, List.set_cons_succ]
  go_cut [3] (fun v wx => ∃ z sv, v = .pointer (some ⟨z, 0, none⟩) ∧ Blk wx z 27 (nodeA lvT.h sv) ∧ NdCap wx lvT sv ∧ Ext w6 wx)
  case first =>
    obtain ⟨T, hT⟩ : ∃ T : (Nat → Value) → Act, ∀ u, T u = { tmps := #[.bool false, .pointer (some ⟨z3, 0, none⟩), .pointer (some ⟨z4, 0, none⟩), u 11, undef, undef, undef, nodeV (leafN 97).h sv1, nodeV (leafN 98).h sv2, u 0, u 1, u 2, u 3, u 4, u 5, u 6, u 7, u 8, u 9, u 10, undef, undef, undef, undef, undef, undef, undef, undef, undef, undef, undef, undef, undef, undef, undef, undef, undef, undef, undef, undef, undef], defers := [] } := ⟨_, fun _ => rfl⟩
    refine wp_region_predT 12 [fun v W' => ∃ sv, v = nodeV (leafN 97).h sv ∧ NdOk W' (leafN 97) sv, fun v W' => ∃ sv, v = nodeV (stN (leafN 97)).h sv ∧ NdOk W' (stN (leafN 97)) sv, fun v W' => ∃ sv, v = nodeV (lvA).h sv ∧ NdOk W' (lvA) sv, fun v W' => ∃ sv, v = nodeV (textN [97, 98]).h sv ∧ NdOk W' (textN [97, 98]) sv, fun v W' => ∃ sv, v = nodeV (lvG).h sv ∧ NdOk W' (lvG) sv, fun v W' => ∃ sv, v = nodeV (stN lvG).h sv ∧ NdOk W' (stN lvG) sv, fun v W' => ∃ sv, v = nodeV (leafN 98).h sv ∧ NdOk W' (leafN 98) sv, fun v W' => ∃ sv, v = nodeV (stN (leafN 98)).h sv ∧ NdOk W' (stN (leafN 98)) sv, fun v W' => ∃ sv, v = nodeV (lvB).h sv ∧ NdOk W' (lvB) sv, fun v W' => NdOk W' (.mk (hdV 0) [lvA, stN lvG, lvB]) v, fun v W' => ∃ sv, v = nodeV lvT.h sv ∧ CapZ W' lvT sv, fun v W' => ∃ z, v = .pointer (some ⟨z, 0, none⟩) ∧ Blk W' z 27 (nodeA ⟨0, fun _ => false, 0, 0, 0, false⟩ (.slice none 0 0)) ∧ w6.heap.size ≤ z] ((((((((((((Lasts.nil.cons fun (v : Value) V V' hx ⟨z, h1, h2, h3⟩ => ⟨z, h1, h2.ext hx, h3⟩).cons fun (v : Value) V V' hx ⟨sv, h1, h2⟩ => ⟨sv, h1, h2.ext hx⟩).cons fun (v : Value) V V' hx (h2 : NdOk V (.mk (hdV 0) [lvA, stN lvG, lvB]) v) => (NdOk.ext hx _ _ h2 : NdOk V' (.mk (hdV 0) [lvA, stN lvG, lvB]) v)).cons fun (v : Value) V V' hx ⟨sv, h1, h2⟩ => ⟨sv, h1, NdOk.ext hx _ _ h2⟩).cons fun (v : Value) V V' hx ⟨sv, h1, h2⟩ => ⟨sv, h1, NdOk.ext hx _ _ h2⟩).cons fun (v : Value) V V' hx ⟨sv, h1, h2⟩ => ⟨sv, h1, NdOk.ext hx _ _ h2⟩).cons fun (v : Value) V V' hx ⟨sv, h1, h2⟩ => ⟨sv, h1, NdOk.ext hx _ _ h2⟩).cons fun (v : Value) V V' hx ⟨sv, h1, h2⟩ => ⟨sv, h1, NdOk.ext hx _ _ h2⟩).cons fun (v : Value) V V' hx ⟨sv, h1, h2⟩ => ⟨sv, h1, NdOk.ext hx _ _ h2⟩).cons fun (v : Value) V V' hx ⟨sv, h1, h2⟩ => ⟨sv, h1, NdOk.ext hx _ _ h2⟩).cons fun (v : Value) V V' hx ⟨sv, h1, h2⟩ => ⟨sv, h1, NdOk.ext hx _ _ h2⟩).cons fun (v : Value) V V' hx ⟨sv, h1, h2⟩ => ⟨sv, h1, NdOk.ext hx _ _ h2⟩) T (fun _ => undef) (hT _) (by kernel_rfl) (by kernel_rfl) (by kernel_rfl) (by kernel_rfl) (by kernel_rfl) (by kernel_rfl) ?_
    simp only [List.take_succ_cons, List.take_zero, List.drop_succ_cons, List.drop_zero, AllS, Nat.reduceAdd]
    refine ⟨⟨?_, ?_, ?_, ?_, ?_, ?_, ?_, ?_, ?_, ?_, ?_, ?_, trivial⟩, ?_⟩
    · intro u W' hx hd'
      clear hd'
      rw [hT u]
      have HOY := Lib.hid (NdOk.ext hx _ _ OK1.out)
      go_wp2_with (refine wpl_loadNd rfl _ rfl z3 0 (leafN 97).h sv1 rfl (HZ3.out.ext hx).nd ?_)
      exact stepQ_mk ⟨Ext.refl _, _, by first | (rw [hT]; simp [updN]) | simp [updN], ⟨sv1, rfl, HOY.out⟩⟩
    · intro u W' hx hd'
      obtain ⟨sw0, e0, ok0⟩ := hd' 0 (mem_of (by kernel_rfl))
      clear hd'
      rw [hT u, e0]
      have HCY := Lib.hid (show Calls _ _ _ W' (RetNd W' (stN (leafN 97))) from rep_any (leafN 97) sw0 0 (-1) W' ok0 (lv_small _ (by simp [leafN, leftN, leftL])))
      go_wp2_with (go_at_call 13; refine HCY.out.mono ?_; rintro e w6 ⟨sv6, rfl, hn6, hx6⟩)
      exact stepQ_mk ⟨hx6, _, by first | (rw [hT]; simp [updN, e0]) | simp [updN, e0], ⟨sv6, rfl, hn6.ok⟩⟩
    · intro u W' hx hd'
      obtain ⟨sw1, e1, ok1⟩ := hd' 1 (mem_of (by kernel_rfl))
      clear hd'
      rw [hT u, e1]
      have HCY := Lib.hid (show Calls _ _ _ W' (RetNd W' (lvA)) from tgroup_any 1 (stN (leafN 97)) sw1 W' ok1 (lv_small _ (by simp [stN, leafN, leftN, leftL])))
      go_wp2_with (go_at_call 12; refine HCY.out.mono ?_; rintro e w6 ⟨sv6, rfl, hn6, hx6⟩)
      exact stepQ_mk ⟨hx6, _, by first | (rw [hT]; simp [updN, e1]) | simp [updN, e1], ⟨sv6, rfl, hn6.ok⟩⟩
    · intro u W' hx hd'
      clear hd'
      rw [hT u]
      have HCY := Lib.hid (show Calls _ _ _ W' (RetNd W' (textN [97, 98])) from text_any ⟨#[97, 98]⟩ W' (by decide))
      go_wp2_with (go_at_call 10; refine HCY.out.mono ?_; rintro e w6 ⟨sv6, rfl, hn6, hx6⟩)
      exact stepQ_mk ⟨hx6, _, by first | (rw [hT]; simp [updN]) | simp [updN], ⟨sv6, rfl, hn6.ok⟩⟩
    · intro u W' hx hd'
      obtain ⟨sw3, e3, ok3⟩ := hd' 3 (mem_of (by kernel_rfl))
      clear hd'
      rw [hT u, e3]
      have HCY := Lib.hid (show Calls _ _ _ W' (RetNd W' (lvG)) from tgroup_any 2 (textN [97, 98]) sw3 W' ok3 (lv_small _ (by simp [lv_text, leafN, leftN, leftL])))
      go_wp2_with (go_at_call 12; refine HCY.out.mono ?_; rintro e w6 ⟨sv6, rfl, hn6, hx6⟩)
      exact stepQ_mk ⟨hx6, _, by first | (rw [hT]; simp [updN, e3]) | simp [updN, e3], ⟨sv6, rfl, hn6.ok⟩⟩
    · intro u W' hx hd'
      obtain ⟨sw4, e4, ok4⟩ := hd' 4 (mem_of (by kernel_rfl))
      clear hd'
      rw [hT u, e4]
      have HCY := Lib.hid (show Calls _ _ _ W' (RetNd W' (stN lvG)) from rep_any lvG sw4 0 (-1) W' ok4 (lv_small _ (by simp [lvG, gpN, lv_text, leafN, leftN, leftL])))
      go_wp2_with (go_at_call 13; refine HCY.out.mono ?_; rintro e w6 ⟨sv6, rfl, hn6, hx6⟩)
      exact stepQ_mk ⟨hx6, _, by first | (rw [hT]; simp [updN, e4]) | simp [updN, e4], ⟨sv6, rfl, hn6.ok⟩⟩
    · intro u W' hx hd'
      clear hd'
      rw [hT u]
      have HOY := Lib.hid (NdOk.ext hx _ _ OK2.out)
      go_wp2_with (refine wpl_loadNd rfl _ rfl z4 0 (leafN 98).h sv2 rfl (HZ4.out.ext hx).nd ?_)
      exact stepQ_mk ⟨Ext.refl _, _, by first | (rw [hT]; simp [updN]) | simp [updN], ⟨sv2, rfl, HOY.out⟩⟩
    · intro u W' hx hd'
      obtain ⟨sw6, e6, ok6⟩ := hd' 6 (mem_of (by kernel_rfl))
      clear hd'
      rw [hT u, e6]
      have HCY := Lib.hid (show Calls _ _ _ W' (RetNd W' (stN (leafN 98))) from rep_any (leafN 98) sw6 0 (-1) W' ok6 (lv_small _ (by simp [leafN, leftN, leftL])))
      go_wp2_with (go_at_call 13; refine HCY.out.mono ?_; rintro e w6 ⟨sv6, rfl, hn6, hx6⟩)
      exact stepQ_mk ⟨hx6, _, by first | (rw [hT]; simp [updN, e6]) | simp [updN, e6], ⟨sv6, rfl, hn6.ok⟩⟩
    · intro u W' hx hd'
      obtain ⟨sw7, e7, ok7⟩ := hd' 7 (mem_of (by kernel_rfl))
      clear hd'
      rw [hT u, e7]
      have HCY := Lib.hid (show Calls _ _ _ W' (RetNd W' (lvB)) from tgroup_any 3 (stN (leafN 98)) sw7 W' ok7 (lv_small _ (by simp [stN, leafN, leftN, leftL])))
      go_wp2_with (go_at_call 12; refine HCY.out.mono ?_; rintro e w6 ⟨sv6, rfl, hn6, hx6⟩)
      exact stepQ_mk ⟨hx6, _, by first | (rw [hT]; simp [updN, e7]) | simp [updN, e7], ⟨sv6, rfl, hn6.ok⟩⟩
    · intro u W' hx hd'
      obtain ⟨sw2, e2, ok2⟩ := hd' 2 (mem_of (by kernel_rfl))
      obtain ⟨sw5, e5, ok5⟩ := hd' 5 (mem_of (by kernel_rfl))
      obtain ⟨sw8, e8, ok8⟩ := hd' 8 (mem_of (by kernel_rfl))
      clear hd'
      rw [hT u, e2, e5, e8]
      have HK2 := Lib.hid ok2
      have HK5 := Lib.hid ok5
      have HK8 := Lib.hid ok8
      go_wp2_with (refine wpl_threeNd rfl _ _ _ rfl lvA.h (stN lvG).h lvB.h sw2 sw5 sw8 rfl rfl rfl ?_; intro g6 w6 h61 h62 h63 hx6 e6)
      exact stepQ_mk ⟨hx6, .slice (some ⟨g6, 0, none⟩) 3 3, by first | (rw [hT]; simp [updN, e2, e5, e8]) | simp [updN, e2, e5, e8], NdOk.three (h := hdV 0) h61 (NdOk.ext hx6 _ _ HK2.out) h62 (NdOk.ext hx6 _ _ HK5.out) h63 (NdOk.ext hx6 _ _ HK8.out)⟩
    · intro u W' hx hd'
      have ok9 : NdOk W' (.mk (hdV 0) [lvA, stN lvG, lvB]) (u 9) := hd' 9 (mem_of (by kernel_rfl))
      clear hd'
      rw [hT u]
      have HCY := Lib.hid (show Calls _ _ _ W' (RetNd W' lvT) from seq_any [lvA, stN lvG, lvB] _ W' ok9 (lv_small _ (by simp [lvA, lvG, lvB, gpN, stN, lv_text, leafN, leftN, leftL])))
      obtain ⟨A9, c9, e9⟩ := ok9.shape
      clear ok9
      rw [e9] at HCY ⊢
      go_wp2_with (go_at_call 11; refine HCY.out.mono ?_; rintro e w6 ⟨sv6, rfl, hn6, hx6⟩)
      exact stepQ_mk ⟨hx6, _, by first | (rw [hT]; simp [updN, e9]) | simp [updN, e9], ⟨sv6, rfl, hn6.capZ lv_form⟩⟩
    · intro u W' hx hd'
      clear hd'
      rw [hT u]
      go_wp2_with (refine wpl_allocNd rfl rfl ?_; intro z6 w6 hz6 hx6 e6 s6)
      exact stepQ_mk ⟨hx6, .pointer (some ⟨z6, 0, none⟩), by first | (rw [hT]; simp [updN]) | simp [updN], ⟨z6, rfl, hz6, Nat.le_trans hx.size e6⟩⟩
    · intro u W' hx hp
      obtain ⟨sw, e10, hcz⟩ := hp 10 (by omega)
      obtain ⟨z, e11, hz, hze⟩ := hp 11 (by omega)
      clear hp
      rw [hT u, e10, e11]
      have hsl := hcz.1.ok.sl
      go_wp2_with (refine wpl_storeNd rfl _ _ rfl rfl z lvT.h _ sw _ rfl rfl hsl hz ?_; intro w7 hz7 hk7)
      go_meet
      case rel => exact ⟨z, sw, rfl, hz7, hcz.2 z w7 hk7 (hz.cell 0), hx.keep1 hk7 hze⟩
  obtain ⟨z, sv, rfl, hz, hcap, hx67⟩ := hcut
  obtain ⟨w7, hw7⟩ : ∃ w, w = wc := ⟨_, rfl⟩
  subst hw7
  have hx7 := HX6.out.trans hx67
  have HX7 := Lib.hid hx7
  have HEw := Lib.hid (HE.out.ext hx7)
  have HVw := Lib.hid (hx7.cell HV.out)
  have HTw := Lib.hid (HTB.out.ext hx7)
  have he4 : nodeA lvT.h sv = #[.int .i64 5, .int .u64 0, .int .u64 0, .int .u64 0, .int .u64 0, sv, .int .i64 0, .int .i64 0, .int .i64 0, .bool false] := by
    simp only [nodeA, nodeC, lvT, hdV, Nd.h]
    rfl
  have he5 : nodeV lvT.h sv = .agg #[.int .i64 5, .int .u64 0, .int .u64 0, .int .u64 0, .int .u64 0, sv, .int .i64 0, .int .i64 0, .int .i64 0, .bool false] := by
    simp only [nodeV, lvT, hdV, Nd.h]
    rfl
  rw [he4] at hz
  have HNew := Lib.hid (fun W => new_any lvS 0 0 W (by decide))
  have HFn : Hid (∀ W p (_ : Ext w7 W) (_ : IsScene W p lvS (mkAt lvS 0 0 lvS.size)), Calls Tryd.prog 8 #[.agg #[.int .i64 5, .int .u64 0, .int .u64 0, .int .u64 0, .int .u64 0, sv, .int .i64 0, .int .i64 0, .int .i64 0, .bool false], p, .int .i64 0, .int .i64 3] W fun r w' => ∃ g cp, r = .returned (.tuple #[.slice (some ⟨g, 0, none⟩) 4 cp, .bool true, .nilIface]) ∧ OwnSp w' W.heap.size (.slice (some ⟨g, 0, none⟩) 4 cp) [(0, 3), (0, 1), (-1, -1), (1, 3)] ∧ Ext W w') := Lib.hid (fun W p hW hs => by
    have h := find_any (x := p) lvT sv 0 3 W A 100 (NdCap.ext hW hcap) hs (HTw.out.ext hW) (HEw.out.ext hW) (hW.cell HVw.out) (by omega) lv_few (by decide) (by decide)
    rw [he5] at h
    refine h.mono fun r w' hr => ?_
    have hk : askN lvT lvS.size 3 [0] = 0 := by unfold askN; rw [lv_chk]; decide
    rcases hr with ⟨h0, _⟩ | ⟨_, h1, _⟩ | ⟨_, l, g, c, h1, h2, h3, h4⟩
    · exact absurd hk h0
    · rw [show (0 : Int).toNat = 0 from rfl, show (3 : Int).toNat = 3 from rfl, lv_find] at h1; cases h1
    · rw [show (0 : Int).toNat = 0 from rfl, show (3 : Int).toNat = 3 from rfl, lv_find] at h1
      simp only [Option.some.injEq] at h1
      subst h1
      exact ⟨g, c, h2, h3, h4⟩)
  have KS := Lib.hid (fun w' (hw' : Ext w7 w') => (⟨(hz.ext hw').cell 0, (hz.ext hw').cell 1, (hz.ext hw').cell 2, (hz.ext hw').cell 3, (hz.ext hw').cell 4, (hz.ext hw').cell 5, (hz.ext hw').cell 6, (hz.ext hw').cell 7, (hz.ext hw').cell 8, (hz.ext hw').cell 9⟩ :
    (w'.cell? ⟨z, 0, none⟩ = some (.int .i64 5) ∧ w'.cell? ⟨z, 1, none⟩ = some (.int .u64 0) ∧ w'.cell? ⟨z, 2, none⟩ = some (.int .u64 0) ∧ w'.cell? ⟨z, 3, none⟩ = some (.int .u64 0) ∧ w'.cell? ⟨z, 4, none⟩ = some (.int .u64 0) ∧ w'.cell? ⟨z, 5, none⟩ = some sv ∧ w'.cell? ⟨z, 6, none⟩ = some (.int .i64 0) ∧ w'.cell? ⟨z, 7, none⟩ = some (.int .i64 0) ∧ w'.cell? ⟨z, 8, none⟩ = some (.int .i64 0) ∧ w'.cell? ⟨z, 9, none⟩ = some (.bool false))))
  obtain ⟨A5, c5, hsv, _⟩ := hcap
  simp only [List.length_cons, List.length_nil] at hsv
  subst hsv
  clear hz he4 he5 hx67 hx7 HEw HVw HTw OK1 OK2 HZ3 HZ4
  go_upto_region 3 with fail
  go_region_held3 (fun w' => w'.cell? ⟨z, 0, none⟩ = some (.int .i64 5) ∧ w'.cell? ⟨z, 1, none⟩ = some (.int .u64 0) ∧ w'.cell? ⟨z, 2, none⟩ = some (.int .u64 0) ∧ w'.cell? ⟨z, 3, none⟩ = some (.int .u64 0) ∧ w'.cell? ⟨z, 4, none⟩ = some (.int .u64 0) ∧ w'.cell? ⟨z, 5, none⟩ = some (.slice A5 3 c5) ∧ w'.cell? ⟨z, 6, none⟩ = some (.int .i64 0) ∧ w'.cell? ⟨z, 7, none⟩ = some (.int .i64 0) ∧ w'.cell? ⟨z, 8, none⟩ = some (.int .i64 0) ∧ w'.cell? ⟨z, 9, none⟩ = some (.bool false))
    ((first | exact KS.out _ (Ext.refl _).drew | exact KS.out _ hX9 | exact KS.out _ hX8))
    (first
      | (go_at_call 7; refine (HNew.out _).mono ?_; rintro e w8 ⟨⟨xv, rfl, hsN⟩, hx8⟩; have hX8 : Ext w7 w8 := (Ext.refl w7).drewr.trans hx8)
      | (go_at_call 8; refine (HFn.out _ xv hX8 hsN).mono ?_; rintro e w9 ⟨g9, c9, rfl, hO9, hx9⟩; have hX9 : Ext w7 w9 := hX8.trans hx9))
  all_goals
    have hR9 := RdSn.of_own hO9
    have HSm := Lib.hid (fun W g (hW : Ext w9 W) (hB : Blk W g 42 #[.int .i64 0, .int .i64 3, .int .i64 0, .int .i64 1, .int .i64 (-1), .int .i64 (-1), .int .i64 1, .int .i64 3]) => sameSpans_any _ _ _ _ W (by decide) (hR9.ext hW) (lit4 hB))
    have hX := HX7.out.trans hX9
    clear hsN hx8 hX8 hx9 hX9 hR9 hO9 HFn HNew KS HX7
    go_wp2_with (first
      | (go_at_call 9; ((with_reducible refine (HSm.out _ _ ((Ext.refl w9).alloc _) (Blk.new w9 _ _)).mono ?_); rintro e w10 ⟨rfl, hx10⟩; have hX10 : Ext w9 w10 := ((Ext.refl w9).alloc _).trans hx10)))
    go_ret
    exact ⟨rfl, hX.trans hX10⟩

end Go.Proofs.YtgfknlkpdiejgaaDoor

namespace Go.Proofs.YtgfknlkpdiejgaaDoor
open Go Go.RowKit

/-- A new span; the store into it. -/
theorem wpl_allocSp {ops : Array Oper} {rest : List Oper} {o : Oper} {a : Act} {w : World} {Q : Exit → Act → World → Prop} (hgd : o.guard = none) (ho : o.op = .alloc 42)
    (hK : ∀ g w1, Blk w1 g 42 #[.int .i64 0, .int .i64 0] → Ext w w1 → w.heap.size ≤ g → g < w1.heap.size → wpList Tryd.prog ops Q rest (a.put o.dst (.pointer (some ⟨g, 0, none⟩))) w1) : wpList Tryd.prog ops Q (o :: rest) a w :=
  wpList_plain hgd fun _ hKK => by
    have hr : (execOp a.eval o).run Tryd.prog w = .ok (.value (.pointer (some ⟨w.heap.size, 0, none⟩))) (w.alloc (.cells #[.int .i64 0, .int .i64 0] 42)) := by
      unfold execOp
      rw [ho]
      simp [Instr.alloc, newVar, newRow, Value.cells]
    unfold Oper.wp
    rw [hr]
    exact hKK _ _ (hK _ _ (Blk.new w _ _) ((Ext.refl w).alloc _) (Nat.le_refl _) (by simp))
theorem wpl_storeSp {ops : Array Oper} {rest : List Oper} {o : Oper} {a : Act} {w : World} {Q : Exit → Act → World → Prop} (hgd : o.guard = none) (x y : Operand) (ho : o.op = .store 42 x y) (hd : o.dst = none) (g : Nat) (s s' : Int × Int) (hx : a.eval x = .pointer (some ⟨g, 0, none⟩)) (hy : a.eval y = .agg #[.int .i64 s.1, .int .i64 s.2]) (hB : Blk w g 42 #[.int .i64 s'.1, .int .i64 s'.2])
    (hK : ∀ w1, Blk w1 g 42 #[.int .i64 s.1, .int .i64 s.2] → Keeps (· = g) w w1 → wpList Tryd.prog ops Q rest a w1) : wpList Tryd.prog ops Q (o :: rest) a w := by
  have hpa : a.put o.dst undef = a := by rw [hd]; rfl
  rw [← hpa] at hK
  refine wpList_store_row hgd _ x y ho g #[.int .i64 s.1, .int .i64 s.2] hx hy _ #[.int .i64 s'.1, .int .i64 s'.2] hB info_sp rfl (by simp [Value.oneCell']) (hK _ (setRow_heap w g _ _ _ _ hB) ⟨rfl, rfl, rfl, by simp, fun k _ hk => setRow_other w g k _ hk⟩)
theorem RdSn.take {w : World} {A : Option Addr} {c : Nat} {l : List (Int × Int)} (h : RdSn w (.slice A l.length c) l) (k : Nat) (hk : k ≤ l.length) (c' : Nat) : RdSn w (.slice A k c') (l.take k) := by
  obtain ⟨B, d, hv, hc⟩ := h
  simp only [Value.slice.injEq] at hv
  obtain ⟨rfl, _, rfl⟩ := hv
  refine ⟨A, c', by rw [List.length_take, Nat.min_eq_left hk], fun j hj => ?_⟩
  rw [List.length_take, Nat.min_eq_left hk] at hj
  obtain ⟨g, o, h1, h2, h3⟩ := hc j (by omega)
  refine ⟨g, o, h1, ?_, ?_⟩
  · rw [List.getElem_take]; exact h2
  · rw [List.getElem_take]; exact h3

end Go.Proofs.YtgfknlkpdiejgaaDoor

namespace Go.Proofs.YtgfknlkpdiejgaaDoor
open Go Go.RowKit

theorem ask_zero {t : Nd} {n g i : Nat} (hc : chkN t = 0) (hi : i ≤ n) (hg : g ≤ 999) : askN t n g [(i : Int)] = 0 := by
  have ho : outB n [(i : Int)] = false := by
    unfold outB
    simp only [List.any_cons, List.any_nil, Bool.or_false, Bool.or_eq_false_iff, decide_eq_false_iff_not]
    omega
  unfold askN
  rw [hc, if_neg (by decide), if_neg]
  rw [ho]
  rintro (h | h | h)
  · cases h
  · omega
  · omega
/-- Find's answer, where there is none or one. -/
theorem find_none {s : ByteArray} {m : List UInt8} {t : Nd} {i g : Nat} {A : Nat → Addr} {w w' : World} {r : Ending} {k : Nat} (hk : k = 0) (hf : findR s.size (tkN (lfM s m) t) i = none) (h : FndR w k (fndL (lfM s m) s.size t i g) A r w') : r = .returned (.tuple #[.slice none 0 0, .bool false, .nilIface]) ∧ Ext w w' := by
  rcases h with ⟨h0, _⟩ | ⟨_, _, h2, h3⟩ | ⟨_, l, _, _, h1, _⟩
  · exact absurd hk h0
  · exact ⟨h2, h3⟩
  · unfold fndL at h1; rw [hf] at h1; cases h1
theorem find_some {s : ByteArray} {m : List UInt8} {t : Nd} {i g a b : Nat} {A : Nat → Addr} {w w' : World} {r : Ending} {k : Nat} (hk : k = 0) (hf : findR s.size (tkN (lfM s m) t) i = some (a, b)) (h : FndR w k (fndL (lfM s m) s.size t i g) A r w') :
    ∃ g' c, r = .returned (.tuple #[.slice (some ⟨g', 0, none⟩) (toldN (lfM s m) t a b g).length c, .bool true, .nilIface]) ∧ OwnSp w' w.heap.size (.slice (some ⟨g', 0, none⟩) (toldN (lfM s m) t a b g).length c) (toldN (lfM s m) t a b g) ∧ Ext w w' := by
  rcases h with ⟨h0, _⟩ | ⟨_, h1, _⟩ | ⟨_, l, g', c, h1, h2, h3, h4⟩
  · exact absurd hk h0
  · unfold fndL at h1; rw [hf] at h1; cases h1
  · unfold fndL at h1
    rw [hf] at h1
    simp only [Option.map_some, Option.some.injEq] at h1
    subst h1
    exact ⟨g', c, h2, h3, h4⟩

set_option maxRecDepth 100000 in
set_option maxHeartbeats 16000000 in
theorem rankedWithin_walk (t : Nd) (svn : Value) (s : ByteArray) (c e fr G : Int) (w : World) (A : Nat → Addr) (hn : NdCap w t svn) (hE : Err3 w A) (v14 : w.cell? ⟨3, 0, none⟩ = some (errV (A 14))) (hT : Tab w) :
    Calls Tryd.prog 3 #[nodeV t.h svn, .agg #[.string s, .int .i64 c, .int .i64 e], .int .i64 fr, .int .i64 G] w fun r w' => r = .returned (.bool true) ∧ Ext w w' := by
  have HL := Lib.hid (fun W (hW : Ext w W) => lives22_any W A (hE.ext hW) (hW.cell v14) (hT.ext hW))
  have HG := Lib.hid (fun W (hW : Ext w W) => long_any t svn s c e 60000 W (NdOk.ext hW _ _ hn.ok))
  have HCk := Lib.hid (fun (h : 0 ≤ leftN t 2500) W (hW : Ext w W) => check_any t svn W A 2500 (NdOk.ext hW _ _ hn.ok) (hE.ext hW) (by omega) h)
  have HN := Lib.hid (fun (hs : s.size ≤ 150) W => new_any s c e W (by omega))
  have HFd := Lib.hid (fun (h : 0 ≤ leftN t 2500) (hs : s.size ≤ 150) (fr G : Int) W x (hW : Ext w W) (hS : IsScene W x s (mkAt s c e s.size)) => find_any t svn fr G W A 2500 (NdCap.ext hW hn) hS (hT.ext hW) (hE.ext hW) (hW.cell v14) (by omega) h (by omega) (by rw [mkAt_len]; omega))
  have HOK := Lib.hid (long_ok (t := t) (s := s) (most := 60000))
  have hsl := hn.ok.sl
  clear hn hE v14 hT
  generalize longT t s 60000 = lg at *
  obtain ⟨h, hh⟩ : ∃ h, h = t.h := ⟨_, rfl⟩
  rw [← hh] at HG HCk HFd ⊢
  clear hh
  go_enter Tryd.func3, Tryd.ntmps3
  go_upto_region 1 with (refine wpl_boxNd rfl _ rfl h _ rfl ?_; intro z w1 hb hx1 ex sx)
  have hV := Blk.new w1 29 #[.string s, .int .i64 c, .int .i64 e]
  have hx2 := hx1.alloc (.cells #[.string s, .int .i64 c, .int .i64 e] 29)
  replace hb := hb.ext ((Ext.refl w1).alloc (.cells #[.string s, .int .i64 c, .int .i64 e] 29))
  generalize w1.alloc (.cells #[.string s, .int .i64 c, .int .i64 e] 29) = w2 at *
  generalize w1.heap.size = u at *
  have HX2 := Lib.hid hx2
  have HK := Lib.hid (fun W (hW : Ext w2 W) => (⟨(hV.ext hW).cell 0, (hV.ext hW).cell 1, (hV.ext hW).cell 2⟩ : W.cell? ⟨u, 0, none⟩ = some (.string s) ∧ W.cell? ⟨u, 1, none⟩ = some (.int .i64 c) ∧ W.cell? ⟨u, 2, none⟩ = some (.int .i64 e)))
  have HA := Lib.hid (fun W (hW : Ext w2 W) => (hb.ext hW).nd)
  clear hV hb hx1 ex sx hx2
  have HL2 := Lib.hid (HL.out w2 HX2.out)
  have HXA : Hid (∀ W, Ext w2 W → Ext w W) := Lib.hid (fun W hW => HX2.out.trans hW)
  by_cases hlg : lg = true
  · subst hlg
    clear HCk HN HFd HOK
    go_wp2_with (first
      | (go_at_call 4; refine HL2.out.mono ?_; rintro e w3 ⟨rfl, hx3⟩; obtain ⟨k0, k1, k2⟩ := HK.out _ hx3)
      | (refine wpl_loadNd rfl _ rfl z 0 h _ rfl (HA.out _ hx3) ?_)
      | (go_at_call 5; refine (HG.out _ (HXA.out _ hx3)).mono ?_; rintro e w4 ⟨rfl, hx4⟩))
    go_ret
    exact ⟨rfl, (HXA.out _ hx3).trans hx4⟩
  have hlg' : lg = false := by simpa using hlg
  clear hlg
  subst hlg'
  obtain ⟨h1, h2⟩ := HOK.out rfl
  have HC2 := Lib.hid (fun W hW => HCk.out h1 W hW)
  have HF2 := Lib.hid (fun hs => HFd.out h1 hs)
  have H150 := Lib.hid h2
  clear HOK HCk HFd h1 h2
  by_cases g1 : G < 0
  · clear HC2 HN HF2 H150
    go_wp2_with (first
      | (go_at_call 4; refine HL2.out.mono ?_; rintro e w3 ⟨rfl, hx3⟩; obtain ⟨k0, k1, k2⟩ := HK.out _ hx3)
      | (refine wpl_loadNd rfl _ rfl z 0 h _ rfl (HA.out _ hx3) ?_)
      | (go_at_call 5; refine (HG.out _ (HXA.out _ hx3)).mono ?_; rintro e w4 ⟨rfl, hx4⟩))
    go_ret
    exact ⟨rfl, (HXA.out _ hx3).trans hx4⟩
  have d1 : decide (G < 0) = false := decide_eq_false g1
  by_cases g2 : 999 < G
  · clear HC2 HN HF2 H150
    go_wp2_with (first
      | (go_at_call 4; refine HL2.out.mono ?_; rintro e w3 ⟨rfl, hx3⟩; obtain ⟨k0, k1, k2⟩ := HK.out _ hx3)
      | (refine wpl_loadNd rfl _ rfl z 0 h _ rfl (HA.out _ hx3) ?_)
      | (go_at_call 5; refine (HG.out _ (HXA.out _ hx3)).mono ?_; rintro e w4 ⟨rfl, hx4⟩))
    go_ret
    exact ⟨rfl, (HXA.out _ hx3).trans hx4⟩
  have d2 : decide (999 < G) = false := decide_eq_false g2
  by_cases g3 : fr < 0
  · clear HC2 HN HF2 H150
    go_wp2_with (first
      | (go_at_call 4; refine HL2.out.mono ?_; rintro e w3 ⟨rfl, hx3⟩; obtain ⟨k0, k1, k2⟩ := HK.out _ hx3)
      | (refine wpl_loadNd rfl _ rfl z 0 h _ rfl (HA.out _ hx3) ?_)
      | (go_at_call 5; refine (HG.out _ (HXA.out _ hx3)).mono ?_; rintro e w4 ⟨rfl, hx4⟩))
    go_ret
    exact ⟨rfl, (HXA.out _ hx3).trans hx4⟩
  have d3 : decide (fr < 0) = false := decide_eq_false g3
  by_cases g4 : (s.size : Int) < fr
  · clear HC2 HN HF2 H150
    go_wp2_with (first
      | (go_at_call 4; refine HL2.out.mono ?_; rintro e w3 ⟨rfl, hx3⟩; obtain ⟨k0, k1, k2⟩ := HK.out _ hx3)
      | (refine wpl_loadNd rfl _ rfl z 0 h _ rfl (HA.out _ hx3) ?_)
      | (go_at_call 5; refine (HG.out _ (HXA.out _ hx3)).mono ?_; rintro e w4 ⟨rfl, hx4⟩; obtain ⟨k0, k1, k2⟩ := HK.out _ (hx3.trans hx4)))
    go_ret
    exact ⟨rfl, (HXA.out _ hx3).trans hx4⟩
  have d4 : decide ((s.size : Int) < fr) = false := decide_eq_false g4
  obtain ⟨gn, rfl⟩ := Int.eq_ofNat_of_zero_le (show 0 ≤ G by omega)
  obtain ⟨i0, rfl⟩ := Int.eq_ofNat_of_zero_le (show 0 ≤ fr by omega)
  have hgn : gn ≤ 999 := by omega
  have hi0 : i0 ≤ s.size := by omega
  have d5 : decide (s.size < i0) = false := decide_eq_false (by omega)
  clear g1 g2 g3 g4
  by_cases g5 : chkN t = 0
  case neg =>
    have he : errR A (chkN t) = .iface 89 (.pointer (some (A (chkN t - 1)))) := by unfold errR errV; rw [if_neg g5]
    rw [he] at HC2
    generalize A (chkN t - 1) = aa at *
    clear HN HF2 H150 g5 he
    go_wp2_with (first
      | (go_at_call 4; refine HL2.out.mono ?_; rintro e w3 ⟨rfl, hx3⟩; obtain ⟨k0, k1, k2⟩ := HK.out _ hx3)
      | (refine wpl_loadNdG _ rfl rfl z 0 h _ rfl (HA.out _ (hx3.trans hx4)) ?_)
      | (refine wpl_loadNd rfl _ rfl z 0 h _ rfl (HA.out _ hx3) ?_)
      | (go_at_call 6; refine (HC2.out _ (HXA.out _ (hx3.trans hx4))).mono ?_; rintro e w5 ⟨rfl, hx5⟩)
      | (go_at_call 5; refine (HG.out _ (HXA.out _ hx3)).mono ?_; rintro e w4 ⟨rfl, hx4⟩; obtain ⟨k0, k1, k2⟩ := HK.out _ (hx3.trans hx4)))
    go_ret
    exact ⟨rfl, ((HXA.out _ hx3).trans hx4).trans hx5⟩
  have he : errR A (chkN t) = .nilIface := by rw [g5]; rfl
  rw [he] at HC2
  have hs := H150.out g5
  have HCH := Lib.hid g5
  have HN2 := Lib.hid (HN.out hs)
  have HF3 := Lib.hid (HF2.out hs)
  clear he g5 H150 HF2 HN
  go_upto_region 6 with (first
    | (go_at_call 4; refine HL2.out.mono ?_; rintro e w3 ⟨rfl, hx3⟩; obtain ⟨k0, k1, k2⟩ := HK.out _ hx3)
    | (refine wpl_loadNdG _ rfl rfl z 0 h _ rfl (HA.out _ (hx3.trans hx4)) ?_)
    | (refine wpl_loadNd rfl _ rfl z 0 h _ rfl (HA.out _ hx3) ?_)
    | (go_at_call 6; refine (HC2.out _ (HXA.out _ (hx3.trans hx4))).mono ?_; rintro e w5 ⟨rfl, hx5⟩; obtain ⟨k0, k1, k2⟩ := HK.out _ ((hx3.trans hx4).trans hx5))
    | (go_at_call 7; refine (HN2.out _).mono ?_; rintro e w6 ⟨⟨xv, rfl, hsN⟩, hx6⟩)
    | (go_at_call 5; refine (HG.out _ (HXA.out _ hx3)).mono ?_; rintro e w4 ⟨rfl, hx4⟩; obtain ⟨k0, k1, k2⟩ := HK.out _ (hx3.trans hx4)))
  have hX26 := ((hx3.trans hx4).trans hx5).trans hx6
  have HX6 := Lib.hid hX26
  obtain ⟨gx, hxv⟩ : ∃ gx, xv = .pointer (some ⟨gx, 0, none⟩) := by obtain ⟨g, _, h, _⟩ := hsN; exact ⟨g, h⟩
  subst hxv
  have HA6 := Lib.hid (fun W (hW : Ext w6 W) => HA.out W (HX6.out.trans hW))
  have HXA6 : Hid (∀ W, Ext w6 W → Ext w W) := Lib.hid (fun W hW => HXA.out W (HX6.out.trans hW))
  have HFd := Lib.hid (fun (fr G : Int) W (hW : Ext w6 W) => HF3.out fr G W _ (HXA6.out W hW) (hsN.ext hW))
  have ec : ((gn : Int) / 2) = ((gn / 2 : Nat) : Int) := by omega
  have HK6 := Lib.hid (fun W (hW : Ext w6 W) => HK.out W (HX6.out.trans hW))
  have HSZ := Lib.hid hs
  clear hX26 hx3 hx4 hx5 hx6 hsN HF3 HN2 HC2 HL2 HL HG HA HK HX6 HXA k0 k1 k2 d1 d2 d3 d4 d5
  generalize hm : mkAt s c e s.size = m at *
  clear hm
  cases hfr : findR s.size (tkN (lfM s m) t) i0 with
  | none =>
    have HFa : Hid (∀ W, Ext w6 W → Calls Tryd.prog 8 #[nodeV h svn, .pointer (some ⟨gx, 0, none⟩), .int .i64 i0, .int .i64 gn] W fun r w' => r = .returned (.tuple #[.slice none 0 0, .bool false, .nilIface]) ∧ Ext W w') := Lib.hid (fun W hW => (HFd.out i0 gn W hW).mono fun r w' hr => find_none (g := gn) (ask_zero HCH.out hi0 hgn) hfr hr)
    have HFb : Hid (∀ W, Ext w6 W → Calls Tryd.prog 8 #[nodeV h svn, .pointer (some ⟨gx, 0, none⟩), .int .i64 i0, .int .i64 ((gn : Int) / 2)] W fun r w' => r = .returned (.tuple #[.slice none 0 0, .bool false, .nilIface]) ∧ Ext W w') := Lib.hid (fun W hW => by
      rw [ec]
      exact (HFd.out i0 (gn / 2 : Nat) W hW).mono fun r w' hr => find_none (g := gn / 2) (ask_zero HCH.out hi0 (by omega)) hfr hr)
    clear HFd ec HCH
    go_wp2_with (first
      | (refine wpl_loadNd rfl _ rfl z 0 h _ rfl (HA6.out _ hx7) ?_)
      | (refine wpl_loadNd rfl _ rfl z 0 h _ rfl (HA6.out _ (Ext.refl _)) ?_)
      | (go_at_call 8; ((with_reducible refine (HFa.out _ (Ext.refl _)).mono ?_); rintro e w7 ⟨rfl, hx7⟩))
      | (go_at_call 8; ((with_reducible refine (HFb.out _ hx7).mono ?_); rintro e w8 ⟨rfl, hx8⟩)))
    go_ret
    exact ⟨rfl, HXA6.out _ (hx7.trans hx8)⟩
  | some ab =>
    obtain ⟨a, b⟩ := ab
    obtain ⟨hia, htab, hab, hbn⟩ := findR_some (tkN_mon (lfM_ok s m) t) hfr
    have HRa : Hid (∀ W, Ext w6 W → Calls Tryd.prog 8 #[nodeV h svn, .pointer (some ⟨gx, 0, none⟩), .int .i64 i0, .int .i64 gn] W fun r w' => ∃ g c, r = .returned (.tuple #[.slice (some ⟨g, 0, none⟩) (gn + 1) c, .bool true, .nilIface]) ∧ OwnSp w' W.heap.size (.slice (some ⟨g, 0, none⟩) (gn + 1) c) (toldN (lfM s m) t a b gn) ∧ Ext W w') := Lib.hid (fun W hW => (HFd.out i0 gn W hW).mono fun r w' hr => by
      have := find_some (g := gn) (ask_zero HCH.out hi0 hgn) hfr hr
      rw [toldN_len] at this
      exact this)
    have HRb : Hid (∀ W, Ext w6 W → Calls Tryd.prog 8 #[nodeV h svn, .pointer (some ⟨gx, 0, none⟩), .int .i64 i0, .int .i64 ((gn : Int) / 2)] W fun r w' => ∃ g c, r = .returned (.tuple #[.slice (some ⟨g, 0, none⟩) (gn / 2 + 1) c, .bool true, .nilIface]) ∧ OwnSp w' W.heap.size (.slice (some ⟨g, 0, none⟩) (gn / 2 + 1) c) (toldN (lfM s m) t a b (gn / 2)) ∧ Ext W w') := Lib.hid (fun W hW => by
      rw [ec]
      exact (HFd.out i0 (gn / 2 : Nat) W hW).mono fun r w' hr => by
        have := find_some (g := gn / 2) (ask_zero HCH.out hi0 (by omega)) hfr hr
        rw [toldN_len] at this
        exact this)
    have HRc : Hid (a < s.size → (∀ W, Ext w6 W → Calls Tryd.prog 8 #[nodeV h svn, .pointer (some ⟨gx, 0, none⟩), .int .i64 ((a : Int) + 1), .int .i64 0] W fun r w' => r = .returned (.tuple #[.slice none 0 0, .bool false, .nilIface]) ∧ Ext W w') ∨
        ∃ a' : Nat, (a : Int) < a' ∧ ∀ W, Ext w6 W → Calls Tryd.prog 8 #[nodeV h svn, .pointer (some ⟨gx, 0, none⟩), .int .i64 ((a : Int) + 1), .int .i64 0] W fun r w' => ∃ g c, r = .returned (.tuple #[.slice (some ⟨g, 0, none⟩) 1 c, .bool true, .nilIface]) ∧ w'.cell? ⟨g, 0, none⟩ = some (.int .i64 a') ∧ Ext W w') := Lib.hid (fun hlt => by
      have e1 : ((a : Int) + 1) = ((a + 1 : Nat) : Int) := by omega
      rw [e1]
      cases hf2 : findR s.size (tkN (lfM s m) t) (a + 1) with
      | none => exact .inl fun W hW => (HFd.out (a + 1 : Nat) (0 : Nat) W hW).mono fun r w' hr => find_none (g := 0) (ask_zero HCH.out (by omega) (by omega)) hf2 hr
      | some p =>
        obtain ⟨a', b'⟩ := p
        obtain ⟨h3, _⟩ := findR_some (tkN_mon (lfM_ok s m) t) hf2
        refine .inr ⟨a', by omega, fun W hW => (HFd.out (a + 1 : Nat) (0 : Nat) W hW).mono fun r w' hr => ?_⟩
        obtain ⟨g, c, h4, h5, h6⟩ := find_some (g := 0) (ask_zero HCH.out (by omega) (by omega)) hf2 hr
        rw [toldN_len] at h4 h5
        refine ⟨g, c, h4, ?_, h6⟩
        have h7 := OwnR.cell h5 0 _ (spR_get _ 0 (by rw [toldN_len]; omega)) 0 (by omega)
        have h8 := toldN_head (lfM s m) t a' b' 0
        rw [List.getElem?_eq_getElem (by rw [toldN_len]; omega)] at h8
        simp only [Option.some.injEq] at h8
        rw [h8] at h7
        exact h7)
    have hl1 := toldN_len (lfM s m) t a b gn
    have hl2 := toldN_len (lfM s m) t a b (gn / 2)
    have HTK := Lib.hid (toldN_take (lfM s m) t a b gn (gn / 2) (by omega))
    have hhd := toldN_head (lfM s m) t a b gn
    have HIN := Lib.hid (toldN_in (lfM_ok s m) t a b gn (chk_ok HCH.out).1 htab hbn)
    generalize toldN (lfM s m) t a b gn = l1 at *
    generalize toldN (lfM s m) t a b (gn / 2) = l2 at *
    have HL1 := Lib.hid hl1
    have HL2 := Lib.hid hl2
    have HHD := Lib.hid hhd
    clear hl1 hl2 hhd HFd ec HCH hfr htab
    go_upto_region 8 with (first
      | (refine wpl_loadNd rfl _ rfl z 0 h _ rfl (HA6.out _ hx7) ?_)
      | (refine wpl_loadNd rfl _ rfl z 0 h _ rfl (HA6.out _ (Ext.refl _)) ?_)
      | (go_at_call 8; ((with_reducible refine (HRa.out _ (Ext.refl _)).mono ?_); rintro e w7 ⟨g7, c7, rfl, hO7, hx7⟩))
      | (go_at_call 8; ((with_reducible refine (HRb.out _ hx7).mono ?_); rintro e w8 ⟨g8, c8, rfl, hO8, hx8⟩)))
    have hx68 := hx7.trans hx8
    have hO7' : OwnSp w8 w6.heap.size (.slice (some ⟨g7, 0, none⟩) (gn + 1) c7) l1 := OwnR.ext hO7 hx8
    have HR1 := Lib.hid (RdSn.of_own hO7')
    have HR2 := Lib.hid (RdSn.of_own hO8)
    have hcap : gn + 1 ≤ c7 := by
      obtain ⟨A0, c0, h1, h2⟩ := OwnR.shape hO7'
      simp only [Value.slice.injEq] at h1
      rw [spR_len, HL1.out] at h2
      omega
    have HSm := Lib.hid (fun W (hW : Ext w8 W) c => (by
      have h1 : RdSn w8 (.slice (some ⟨g7, 0, none⟩) (gn / 2 + 1) c) (l1.take (gn / 2 + 1)) := RdSn.take (c := c7) (by rw [HL1.out]; exact HR1.out) (gn / 2 + 1) (by rw [HL1.out]; omega) c
      have h := sameSpans_any _ _ _ _ W (by rw [List.length_take, HL1.out]; omega) (h1.ext hW) (HR2.out.ext hW)
      rw [HTK.out, decide_eq_true rfl] at h
      exact h : Calls Tryd.prog 9 #[.slice (some ⟨g7, 0, none⟩) (gn / 2 + 1) c, .slice (some ⟨g8, 0, none⟩) (gn / 2 + 1) c8] W fun r w' => r = .returned (.bool true) ∧ Ext W w'))
    have HCL : Hid (∀ j (hj : j < gn + 1), ∃ x0 x1 : Int, w8.cell? ⟨g7, j * 2, none⟩ = some (.int .i64 x0) ∧ w8.cell? ⟨g7, j * 2 + 1, none⟩ = some (.int .i64 x1) ∧ ((x0 = -1 ∧ x1 = -1) ∨ ((a : Int) ≤ x0 ∧ x0 ≤ x1 ∧ x1 ≤ b))) := Lib.hid (fun j hj => by
      have h1 := OwnR.cell hO7' j _ (spR_get l1 j (by rw [HL1.out]; exact hj)) 0 (by omega)
      have h2 := OwnR.cell hO7' j _ (spR_get l1 j (by rw [HL1.out]; exact hj)) 1 (by omega)
      have h3 := HIN.out _ (List.getElem_mem (show j < l1.length by rw [HL1.out]; exact hj))
      refine ⟨(l1[j]'(by rw [HL1.out]; exact hj)).1, (l1[j]'(by rw [HL1.out]; exact hj)).2, h1, h2, ?_⟩
      rcases h3 with h3 | h3
      · left; rw [h3]; exact ⟨rfl, rfl⟩
      · exact .inr h3)
    have hH : w8.cell? ⟨g7, 0, none⟩ = some (.int .i64 a) ∧ w8.cell? ⟨g7, 1, none⟩ = some (.int .i64 b) := by
      have h0 : 0 < l1.length := by rw [HL1.out]; omega
      have h1 := OwnR.cell hO7' 0 _ (spR_get l1 0 h0) 0 (by omega)
      have h2 := OwnR.cell hO7' 0 _ (spR_get l1 0 h0) 1 (by omega)
      have h3 := HHD.out
      rw [List.getElem?_eq_getElem h0] at h3
      simp only [Option.some.injEq] at h3
      rw [h3] at h1 h2
      exact ⟨h1, h2⟩
    obtain ⟨c0, c1⟩ := hH
    have HC0 := Lib.hid c0
    have HC1 := Lib.hid c1
    have HX68 := Lib.hid hx68
    have n1 : ¬ ((a : Int) < (i0 : Int)) := by omega
    have d1 : decide ((a : Int) < (i0 : Int)) = false := decide_eq_false n1
    have hcap2 : gn / 2 + 1 ≤ c7 := by omega
    clear hx68 hO7 hO7' hO8 hx7 hx8 HR1 HR2 HL1 HL2 HHD HIN HTK HRa HRb hcap
    go_upto_region 14 with (go_at_call 9; refine (HSm.out _ (Ext.refl _) _).mono ?_; rintro e w9 ⟨rfl, hx9⟩; replace c0 := hx9.cell c0; replace c1 := hx9.cell c1)
    have HX9 := Lib.hid hx9
    have HX69 := Lib.hid (HX68.out.trans hx9)
    have hx99 := Ext.refl w9
    clear hx9 HSm d1 n1 hcap2 c0 c1
    go_wp2
    go_loopw [128] (fun iv wr => ∃ k : Nat, k ≤ gn + 1 ∧ iv = .int .i64 k ∧ Ext w9 wr) (fun iv _ => gn + 1 - (intOf iv).toNat)
    case atStart => exact ⟨0, Nat.zero_le _, rfl, hx99⟩
    case round =>
      clear hx99
      obtain ⟨k, hk, rfl, hxr⟩ := hrel
      have HXR := Lib.hid hxr
      clear hxr
      by_cases hlt : k < gn + 1
      · obtain ⟨x0, x1, b0, b1, hy⟩ := HCL.out k hlt
        replace b0 := (HX9.out.trans HXR.out).cell b0
        replace b1 := (HX9.out.trans HXR.out).cell b1
        have q9 : (k : Int) < ((gn + 1 : Nat) : Int) := by omega
        have HYY := Lib.hid hy
        clear hy
        go_upto_region 17 with (first
          | (refine wpl_allocSp rfl rfl ?_; intro bb w3 hbb hx3 eb sb)
          | (refine wpl_storeSp rfl _ _ rfl rfl bb (x0, x1) (0, 0) rfl rfl hbb ?_; intro w4 hb4 hk4))
        simp only [Act.put, List.setIfInBounds_toArray, List.set_cons_zero, List.set_cons_succ]
        have hx34 := hx3.keep1 hk4 eb
        have s0 : w4.cell? ⟨bb, 0, none⟩ = some (.int .i64 x0) := hb4.cell 0
        have s1 : w4.cell? ⟨bb, 1, none⟩ = some (.int .i64 x1) := hb4.cell 1
        have c0 := ((HX9.out.trans HXR.out).trans hx34).cell HC0.out
        have c1 := ((HX9.out.trans HXR.out).trans hx34).cell HC1.out
        have hxe := HXR.out.trans hx34
        have HXE := Lib.hid hxe
        have s0' := cell_plus s0
        have s1' := cell_plus s1
        have c0' := cell_plus c0
        have c1' := cell_plus c1
        clear hbb hx3 hk4 eb sb hb4 hx34 b0 b1 hxe s0 s1 c0 c1
        by_cases hun : x0 = -1 ∧ x1 = -1
        · obtain ⟨rfl, rfl⟩ := hun
          refine wp_region_plus (by kernel_rfl) (by kernel_rfl) ?_
          repeat (go_big_quiet_step (fail))
          refine wpQuiet_nil ?_
          intro y
          have hxy := HXE.out.trans (plus_ext w4 y)
          clear s0' s1' c0' c1'
          go_wp2
          go_roundw
          case rel => exact ⟨k + 1, hlt, by go_num, hxy⟩
          case measure => simp [intOf]; omega
        · have hy := HYY.out
          have e1 : (x0 == -1) = false := by rw [beq_eq_false_iff_ne]; omega
          have d1 : decide (x0 < (a : Int)) = false := decide_eq_false (by omega)
          have d2 : decide ((b : Int) < x1) = false := decide_eq_false (by omega)
          have d3 : decide (x1 < x0) = false := decide_eq_false (by omega)
          clear hy hun
          refine wp_region_plus (by kernel_rfl) (by kernel_rfl) ?_
          repeat (go_big_quiet_step (fail))
          refine wpQuiet_nil ?_
          intro y
          have hxy := HXE.out.trans (plus_ext w4 y)
          clear s0' s1' c0' c1' d1 d2 d3 e1
          go_wp2
          go_roundw
          case rel => exact ⟨k + 1, hlt, by go_num, hxy⟩
          case measure => simp [intOf]; omega
      · have q9 : ¬ (k : Int) < ((gn + 1 : Nat) : Int) := by omega
        have HXr := Lib.hid (HX69.out.trans HXR.out)
        obtain ⟨k0, _, _⟩ := HK6.out wr HXr.out
        have c0 := (HX9.out.trans HXR.out).cell HC0.out
        have k0' := cell_plus k0
        have c0' := cell_plus c0
        go_upto_region 20 with fail
        by_cases han : a = s.size
        · have q8 : ((a : Int) == (s.size : Int)) = true := by rw [han]; exact beq_self_eq_true _
          clear han
          refine wp_region_plus (by kernel_rfl) (by kernel_rfl) ?_
          repeat (go_big_quiet_step (fail))
          refine wpQuiet_nil ?_
          intro y
          have hxy := HXr.out.trans (plus_ext wr y)
          clear k0' c0' k0 c0
          go_wp2
          go_ret
          exact ⟨rfl, HXA6.out _ hxy⟩
        · have q8 : ((a : Int) == (s.size : Int)) = false := by rw [beq_eq_false_iff_ne]; omega
          have hlt2 : a < s.size := by omega
          have HRD := Lib.hid (HRc.out hlt2)
          clear han hlt2 HRc
          refine wp_region_plus (by kernel_rfl) (by kernel_rfl) ?_
          repeat (go_big_quiet_step (fail))
          refine wpQuiet_nil ?_
          intro y
          have hxy := HXr.out.trans (plus_ext wr y)
          have hxz := (HX9.out.trans HXR.out).trans (plus_ext wr y)
          clear k0' c0' k0 c0 q8
          generalize plus wr y = wy at *
          have KS := Lib.hid (fun w' (hw' : Ext wy w') => (by
            have q1 := HA6.out w' (hxy.trans hw')
            exact ⟨⟨q1 0 (by decide), q1 1 (by decide), q1 2 (by decide), q1 3 (by decide), q1 4 (by decide), q1 5 (by decide), q1 6 (by decide), q1 7 (by decide), q1 8 (by decide), q1 9 (by decide)⟩, (hxz.trans hw').cell HC0.out⟩ : (w'.cell? ⟨z, 0, none⟩ = some (.int .i64 h.kind) ∧ w'.cell? ⟨z, 1, none⟩ = some (.int .u64 (wd h.set 0 : Int)) ∧ w'.cell? ⟨z, 2, none⟩ = some (.int .u64 (wd h.set 1 : Int)) ∧ w'.cell? ⟨z, 3, none⟩ = some (.int .u64 (wd h.set 2 : Int)) ∧ w'.cell? ⟨z, 4, none⟩ = some (.int .u64 (wd h.set 3 : Int)) ∧ w'.cell? ⟨z, 5, none⟩ = some svn ∧ w'.cell? ⟨z, 6, none⟩ = some (.int .i64 h.num) ∧ w'.cell? ⟨z, 7, none⟩ = some (.int .i64 h.min) ∧ w'.cell? ⟨z, 8, none⟩ = some (.int .i64 h.max) ∧ w'.cell? ⟨z, 9, none⟩ = some (.bool h.bare)) ∧ w'.cell? ⟨g7, 0, none⟩ = some (.int .i64 a)))
          have HXY := Lib.hid hxy
          have q7 : IntKind.i64.wrap ((a : Int) + 1) = (a : Int) + 1 := by have := HSZ.out; rw [IntKind.wrap_i64]; omega
          clear hxy hxz
          rcases HRD.out with hrd | ⟨a', haa, hrd⟩
          · have HQ : Hid (∀ W, Ext w6 W → Calls Tryd.prog 8 #[.agg #[.int .i64 h.kind, .int .u64 (wd h.set 0 : Int), .int .u64 (wd h.set 1 : Int), .int .u64 (wd h.set 2 : Int), .int .u64 (wd h.set 3 : Int), svn, .int .i64 h.num, .int .i64 h.min, .int .i64 h.max, .bool h.bare], .pointer (some ⟨gx, 0, none⟩), .int .i64 ((a : Int) + 1), .int .i64 0] W fun r w' => r = .returned (.tuple #[.slice none 0 0, .bool false, .nilIface]) ∧ Ext W w') := Lib.hid hrd
            clear hrd HRD
            go_upto_region 22 with fail
            go_region_held3 (fun w' => (w'.cell? ⟨z, 0, none⟩ = some (.int .i64 h.kind) ∧ w'.cell? ⟨z, 1, none⟩ = some (.int .u64 (wd h.set 0 : Int)) ∧ w'.cell? ⟨z, 2, none⟩ = some (.int .u64 (wd h.set 1 : Int)) ∧ w'.cell? ⟨z, 3, none⟩ = some (.int .u64 (wd h.set 2 : Int)) ∧ w'.cell? ⟨z, 4, none⟩ = some (.int .u64 (wd h.set 3 : Int)) ∧ w'.cell? ⟨z, 5, none⟩ = some svn ∧ w'.cell? ⟨z, 6, none⟩ = some (.int .i64 h.num) ∧ w'.cell? ⟨z, 7, none⟩ = some (.int .i64 h.min) ∧ w'.cell? ⟨z, 8, none⟩ = some (.int .i64 h.max) ∧ w'.cell? ⟨z, 9, none⟩ = some (.bool h.bare)) ∧ w'.cell? ⟨g7, 0, none⟩ = some (.int .i64 a))
              ((first | exact KS.out _ (Ext.refl _).drew | exact KS.out _ hX10))
              ((go_at_call 8; refine (HQ.out _ (HXY.out.trans (Ext.refl wy).drewr)).mono ?_; rintro e w10 ⟨rfl, hx10⟩; have hX10 : Ext wy w10 := (Ext.refl wy).drewr.trans hx10))
            all_goals
              have hXW := HXA6.out _ (HXY.out.trans hX10)
              have HXW := Lib.hid hXW
              clear hx10 hX10 hXW KS HQ
              go_wp2
              refine wp_region_plus (by kernel_rfl) (by kernel_rfl) ?_
              repeat (go_big_quiet_step (fail))
              refine wpQuiet_nil ?_
              intro y2
              have hxf := HXW.out.trans (plus_ext w10 y2)
              go_wp2
              go_ret
              exact ⟨rfl, hxf⟩
          · have HQ : Hid (∀ W, Ext w6 W → Calls Tryd.prog 8 #[.agg #[.int .i64 h.kind, .int .u64 (wd h.set 0 : Int), .int .u64 (wd h.set 1 : Int), .int .u64 (wd h.set 2 : Int), .int .u64 (wd h.set 3 : Int), svn, .int .i64 h.num, .int .i64 h.min, .int .i64 h.max, .bool h.bare], .pointer (some ⟨gx, 0, none⟩), .int .i64 ((a : Int) + 1), .int .i64 0] W fun r w' => ∃ g c, r = .returned (.tuple #[.slice (some ⟨g, 0, none⟩) 1 c, .bool true, .nilIface]) ∧ w'.cell? ⟨g, 0, none⟩ = some (.int .i64 a') ∧ Ext W w') := Lib.hid hrd
            clear hrd HRD
            go_upto_region 22 with fail
            go_region_held3 (fun w' => (w'.cell? ⟨z, 0, none⟩ = some (.int .i64 h.kind) ∧ w'.cell? ⟨z, 1, none⟩ = some (.int .u64 (wd h.set 0 : Int)) ∧ w'.cell? ⟨z, 2, none⟩ = some (.int .u64 (wd h.set 1 : Int)) ∧ w'.cell? ⟨z, 3, none⟩ = some (.int .u64 (wd h.set 2 : Int)) ∧ w'.cell? ⟨z, 4, none⟩ = some (.int .u64 (wd h.set 3 : Int)) ∧ w'.cell? ⟨z, 5, none⟩ = some svn ∧ w'.cell? ⟨z, 6, none⟩ = some (.int .i64 h.num) ∧ w'.cell? ⟨z, 7, none⟩ = some (.int .i64 h.min) ∧ w'.cell? ⟨z, 8, none⟩ = some (.int .i64 h.max) ∧ w'.cell? ⟨z, 9, none⟩ = some (.bool h.bare)) ∧ w'.cell? ⟨g7, 0, none⟩ = some (.int .i64 a))
              ((first | exact KS.out _ (Ext.refl _).drew | exact KS.out _ hX10))
              ((go_at_call 8; refine (HQ.out _ (HXY.out.trans (Ext.refl wy).drewr)).mono ?_; rintro e w10 ⟨g10, c10, rfl, hc10, hx10⟩; have hX10 : Ext wy w10 := (Ext.refl wy).drewr.trans hx10))
            all_goals
              have hXW := HXA6.out _ (HXY.out.trans hX10)
              have HXW := Lib.hid hXW
              obtain ⟨_, c0⟩ := KS.out _ hX10
              have c0' := cell_plus c0
              have hc10' := cell_plus hc10
              have q6 : decide ((a : Int) < (a' : Int)) = true := decide_eq_true haa
              clear hx10 hX10 hXW KS HQ c0 hc10
              go_wp2
              refine wp_region_plus (by kernel_rfl) (by kernel_rfl) ?_
              repeat (go_big_quiet_step (fail))
              refine wpQuiet_nil ?_
              intro y2
              have hxf := HXW.out.trans (plus_ext w10 y2)
              clear c0' hc10'
              go_wp2
              go_ret
              exact ⟨rfl, hxf⟩

end Go.Proofs.YtgfknlkpdiejgaaDoor
