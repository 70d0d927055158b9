/- The fixed fact of layer 22's statements as a contract. Condition: the error values and the library's table lie where they lie. trawlref04.count and size as contracts. Condition: the tree lies in memory, its lists are short, it is in form. trawlref04.used as a contract; one cell, or the set, stored into a node of the call's own. No condition. trawlref04's form in plain words: what it asks of a node is what tree asks. No program. -/
import Derived.Test.YtgfknlkpdiejgaaDoorZRankedWithinAN
import Derived.Test.YtgfknlkpdiejgaaDoorZRankedWithinAO
import Derived.Test.YtgfknlkpdiejgaaDoorZRankedWithinAP
import Derived.Great.BuildSlice
import Derived.Deep.RegionHeld3
import Derived.Test.YtgfknlkpdiejgaaDoorZRankedWithinAK
import Derived.Test.YtgfknlkpdiejgaaDoorZRankedWithinAC
import Derived.Test.YtgfknlkpdiejgaaDoorNodeW
import Derived.Test.YtgfknlkpdiejgaaDoorZRankedWithinAD
namespace Go.Proofs.YtgfknlkpdiejgaaDoor
open Go Go.RowKit

section
variable {ops : Array Oper} {rest : List Oper} {o : Oper} {a : Act} {w : World} {Q : Exit → Act → World → Prop}
/-- A list literal of three nodes. -/
theorem wpl_threeNd (hgd : o.guard = none) (x y z : Operand) (ho : o.op = .buildSlice 25 3 #[(0, x), (1, y), (2, z)]) (h h' h'' : Hd) (sv sv' sv'' : Value) (hx : a.eval x = nodeV h sv) (hy : a.eval y = nodeV h' sv') (hz' : a.eval z = nodeV h'' sv'')
    (hK : ∀ g w1, NdAt w1 g 0 h sv → NdAt w1 g 10 h' sv' → NdAt w1 g 20 h'' sv'' → Ext w w1 → w.heap.size ≤ g → wpList Tryd.prog ops Q rest (a.put o.dst (.slice (some ⟨g, 0, none⟩) 3 3)) w1) : wpList Tryd.prog ops Q (o :: rest) a w := by
  obtain ⟨i, hi, hz⟩ := Option.map_eq_some_iff.1 zero_nd
  have hs : i.size = 10 := by have := info_nd; rw [hi] at this; simpa using this
  have hb : ∀ j, j < 30 → (w.alloc (.cells ((nodeC h sv ++ (nodeC h' sv' ++ nodeC h'' sv'')).toArray) 27)).cell? ⟨w.heap.size, j, none⟩ = (nodeC h sv ++ (nodeC h' sv' ++ nodeC h'' sv''))[j]? := fun j _ => by
    rw [(Blk.new w _ _).cell]; simp
  refine wpList_buildSlice hgd 25 27 3 _ ho ((nodeC h sv ++ (nodeC h' sv' ++ nodeC h'' sv'')).toArray) i _ Tryd.underlying25 hi hz (by rw [hs]; decide) (by rw [hs]; decide) ?_ (hK _ _ (fun j hj => by
      rw [Nat.zero_add, hb j (by omega), List.getElem?_append_left (by rw [nodeC_len]; omega)]) (fun j hj => by
      rw [hb (10 + j) (by omega), List.getElem?_append_right (by rw [nodeC_len]; omega), nodeC_len, Nat.add_sub_cancel_left, List.getElem?_append_left (by rw [nodeC_len]; omega)]) (fun j hj => by
      rw [hb (20 + j) (by omega), List.getElem?_append_right (by rw [nodeC_len]; omega), nodeC_len, List.getElem?_append_right (by rw [nodeC_len]; omega), nodeC_len, show 20 + j - 10 - 10 = j by omega]) ((Ext.refl w).alloc _) (Nat.le_refl _))
  rw [hs]
  have hf := Great.fill_whole (s := 10) (by decide) [nodeV h sv, nodeV h' sv', nodeV h'' sv''] ((Array.range (3 * 10)).map ((nodeV ⟨0, fun _ => false, 0, 0, 0, false⟩ (.slice none 0 0)).cells[· % (nodeV ⟨0, fun _ => false, 0, 0, 0, false⟩ (.slice none 0 0)).cells.size]!)) (fun v hv => by
    simp only [List.mem_cons, List.not_mem_nil, or_false] at hv
    rcases hv with rfl | rfl | rfl <;> rfl) (by simp)
  have e : (List.map (fun x => (x.2, x.1)) ([nodeV h sv, nodeV h' sv', nodeV h'' sv''].zipIdx 0)) = (Array.map (fun x => (x.1, a.eval x.2)) #[(0, x), (1, y), (2, z)]).toList := by simp [hx, hy, hz', List.zipIdx]
  rw [e] at hf
  rw [hf]
  simp [nodeV_eq, Value.cells, nodeA]
end
theorem NdOk.three {W : World} {n n' n'' : Nd} {h : Hd} {g c : Nat} {sv sv' sv'' : Value} (ha : NdAt W g 0 n.h sv) (hn : NdOk W n sv) (ha' : NdAt W g 10 n'.h sv') (hn' : NdOk W n' sv') (ha'' : NdAt W g 20 n''.h sv'') (hn'' : NdOk W n'' sv'') : NdOk W (.mk h [n, n', n'']) (.slice (some ⟨g, 0, none⟩) 3 c) := by
  unfold NdOk
  refine ⟨_, c, rfl, ⟨g, 0, sv, rfl, fun i hi => ?_, hn⟩, ⟨g, 0, sv', rfl, fun i hi => ?_, hn'⟩, ⟨g, 0, sv'', rfl, fun i hi => ?_, hn''⟩, trivial⟩
  · have := ha i hi
    rwa [Nat.zero_add] at this ⊢
  · have := ha' i hi
    rwa [show 0 + (0 + 1) * 10 + i = 10 + i by omega]
  · have := ha'' i hi
    rwa [show 0 + (0 + 1 + 1) * 10 + i = 20 + i by omega]

theorem lit4 {W : World} {g : Nat} {t : TypeId} (hB : Blk W g t #[.int .i64 0, .int .i64 3, .int .i64 0, .int .i64 1, .int .i64 (-1), .int .i64 (-1), .int .i64 1, .int .i64 3]) : RdSn W (.slice (some ⟨g, 0, none⟩) 4 4) [(0, 3), (0, 1), (-1, -1), (1, 3)] := by
  refine ⟨_, 4, rfl, fun j hj => ⟨g, 0, rfl, ?_⟩⟩
  have hj' : j = 0 ∨ j = 1 ∨ j = 2 ∨ j = 3 := by simp at hj; omega
  rcases hj' with rfl | rfl | rfl | rfl <;> exact ⟨by rw [hB.cell]; rfl, by rw [hB.cell]; rfl⟩

set_option maxRecDepth 100000 in
set_option maxHeartbeats 16000000 in
theorem lives22_any (w : World) (A : Nat → Addr) (hE : Err3 w A) (v14 : w.cell? ⟨3, 0, none⟩ = some (errV (A 14))) (hT : Tab w) :
    Calls Tryd.prog 4 #[] w fun r w' => r = .returned (.bool true) ∧ Ext w w' := by
  have HT97 : Hid (∀ W, Calls Tryd.prog 10 #[.string ⟨#[97]⟩] W (RetNd W (leafN 97))) := Lib.hid (fun W => text_any ⟨#[97]⟩ W (by decide))
  have HT98 : Hid (∀ W, Calls Tryd.prog 10 #[.string ⟨#[98]⟩] W (RetNd W (leafN 98))) := Lib.hid (fun W => text_any ⟨#[98]⟩ W (by decide))
  have HE := Lib.hid hE
  have HV := Lib.hid v14
  have HTB := Lib.hid hT
  clear hE v14 hT
  go_enter Tryd.func4, Tryd.ntmps4
  go_upto_region 2 with (first
    | (go_at_call 10; ((with_reducible refine (HT98.out _).mono ?_); rintro e w2 ⟨sv2, rfl, hn2, hx2⟩))
    | (go_at_call 10; ((with_reducible refine (HT97.out _).mono ?_); rintro e w1 ⟨sv1, rfl, hn1, hx1⟩))
    | (have := s3; refine wpl_allocNd rfl rfl ?_; intro z4 w4 hz4 hx4 e4 s4)
    | (refine wpl_allocNd rfl rfl ?_; intro z3 w3 hz3 hx3 e3 s3)
    | (refine wpl_storeNd rfl _ _ rfl rfl z3 (leafN 97).h _ sv1 _ rfl rfl hn1.ok.sl (hz3.ext hx4) ?_; intro w5 hz5 hk5)
    | (refine wpl_storeNd rfl _ _ rfl rfl z4 (leafN 98).h _ sv2 _ rfl rfl hn2.ok.sl (hz4.keep1 hk5 (by omega)) ?_; intro w6 hz6 hk6))
  have OK1 := Lib.hid (NdOk.ext ((((hx2.trans hx3).trans hx4).keep1 hk5 (by have := hx2.size; omega)).keep1 hk6 (by have := hx2.size; have := hx3.size; omega)) _ _ hn1.ok)
  have OK2 := Lib.hid (NdOk.ext (((hx3.trans hx4).keep1 hk5 (by omega)).keep1 hk6 (by have := hx3.size; omega)) _ _ hn2.ok)
  have HZ3 := Lib.hid (hz5.keep1 hk6 (by omega))
  have HZ4 := Lib.hid hz6
  have hx06 := ((((hx1.trans hx2).trans hx3).trans hx4).keep1 hk5 (by have := hx1.size; have := hx2.size; omega)).keep1 hk6 (by have := hx1.size; have := hx2.size; have := hx3.size; omega)
  have HX6 := Lib.hid hx06
  clear hn1 hn2 hx1 hx2 hx3 hx4 hk5 hk6 hz3 hz4 hz5 hz6 e3 s3 e4 s4 hx06 HT97 HT98
  simp only [Act.put, List.setIfInBounds_toArray, List.set_cons_zero, List.set_cons_succ]
  go_cut [3] (fun v wx => ∃ z sv, v = .pointer (some ⟨z, 0, none⟩) ∧ Blk wx z 27 (nodeA lvT.h sv) ∧ NdCap wx lvT sv ∧ Ext w6 wx)
  case first =>
    obtain ⟨T, hT⟩ : ∃ T : (Nat → Value) → Act, ∀ u, T u = { tmps := #[.bool false, .pointer (some ⟨z3, 0, none⟩), .pointer (some ⟨z4, 0, none⟩), u 11, undef, undef, undef, nodeV (leafN 97).h sv1, nodeV (leafN 98).h sv2, u 0, u 1, u 2, u 3, u 4, u 5, u 6, u 7, u 8, u 9, u 10, undef, undef, undef, undef, undef, undef, undef, undef, undef, undef, undef, undef, undef, undef, undef, undef, undef, undef, undef, undef, undef], defers := [] } := ⟨_, fun _ => rfl⟩
    refine wp_region_predT 12 [fun v W' => ∃ sv, v = nodeV (leafN 97).h sv ∧ NdOk W' (leafN 97) sv, fun v W' => ∃ sv, v = nodeV (stN (leafN 97)).h sv ∧ NdOk W' (stN (leafN 97)) sv, fun v W' => ∃ sv, v = nodeV (lvA).h sv ∧ NdOk W' (lvA) sv, fun v W' => ∃ sv, v = nodeV (textN [97, 98]).h sv ∧ NdOk W' (textN [97, 98]) sv, fun v W' => ∃ sv, v = nodeV (lvG).h sv ∧ NdOk W' (lvG) sv, fun v W' => ∃ sv, v = nodeV (stN lvG).h sv ∧ NdOk W' (stN lvG) sv, fun v W' => ∃ sv, v = nodeV (leafN 98).h sv ∧ NdOk W' (leafN 98) sv, fun v W' => ∃ sv, v = nodeV (stN (leafN 98)).h sv ∧ NdOk W' (stN (leafN 98)) sv, fun v W' => ∃ sv, v = nodeV (lvB).h sv ∧ NdOk W' (lvB) sv, fun v W' => NdOk W' (.mk (hdV 0) [lvA, stN lvG, lvB]) v, fun v W' => ∃ sv, v = nodeV lvT.h sv ∧ CapZ W' lvT sv, fun v W' => ∃ z, v = .pointer (some ⟨z, 0, none⟩) ∧ Blk W' z 27 (nodeA ⟨0, fun _ => false, 0, 0, 0, false⟩ (.slice none 0 0)) ∧ w6.heap.size ≤ z] ((((((((((((Lasts.nil.cons fun (v : Value) V V' hx ⟨z, h1, h2, h3⟩ => ⟨z, h1, h2.ext hx, h3⟩).cons fun (v : Value) V V' hx ⟨sv, h1, h2⟩ => ⟨sv, h1, h2.ext hx⟩).cons fun (v : Value) V V' hx (h2 : NdOk V (.mk (hdV 0) [lvA, stN lvG, lvB]) v) => (NdOk.ext hx _ _ h2 : NdOk V' (.mk (hdV 0) [lvA, stN lvG, lvB]) v)).cons fun (v : Value) V V' hx ⟨sv, h1, h2⟩ => ⟨sv, h1, NdOk.ext hx _ _ h2⟩).cons fun (v : Value) V V' hx ⟨sv, h1, h2⟩ => ⟨sv, h1, NdOk.ext hx _ _ h2⟩).cons fun (v : Value) V V' hx ⟨sv, h1, h2⟩ => ⟨sv, h1, NdOk.ext hx _ _ h2⟩).cons fun (v : Value) V V' hx ⟨sv, h1, h2⟩ => ⟨sv, h1, NdOk.ext hx _ _ h2⟩).cons fun (v : Value) V V' hx ⟨sv, h1, h2⟩ => ⟨sv, h1, NdOk.ext hx _ _ h2⟩).cons fun (v : Value) V V' hx ⟨sv, h1, h2⟩ => ⟨sv, h1, NdOk.ext hx _ _ h2⟩).cons fun (v : Value) V V' hx ⟨sv, h1, h2⟩ => ⟨sv, h1, NdOk.ext hx _ _ h2⟩).cons fun (v : Value) V V' hx ⟨sv, h1, h2⟩ => ⟨sv, h1, NdOk.ext hx _ _ h2⟩).cons fun (v : Value) V V' hx ⟨sv, h1, h2⟩ => ⟨sv, h1, NdOk.ext hx _ _ h2⟩) T (fun _ => undef) (hT _) (by kernel_rfl) (by kernel_rfl) (by kernel_rfl) (by kernel_rfl) (by kernel_rfl) (by kernel_rfl) ?_
    simp only [List.take_succ_cons, List.take_zero, List.drop_succ_cons, List.drop_zero, AllS, Nat.reduceAdd]
    refine ⟨⟨?_, ?_, ?_, ?_, ?_, ?_, ?_, ?_, ?_, ?_, ?_, ?_, trivial⟩, ?_⟩
    · intro u W' hx hd'
      clear hd'
      rw [hT u]
      have HOY := Lib.hid (NdOk.ext hx _ _ OK1.out)
      go_wp2_with (refine wpl_loadNd rfl _ rfl z3 0 (leafN 97).h sv1 rfl (HZ3.out.ext hx).nd ?_)
      exact stepQ_mk ⟨Ext.refl _, _, by first | (rw [hT]; simp [updN]) | simp [updN], ⟨sv1, rfl, HOY.out⟩⟩
    · intro u W' hx hd'
      obtain ⟨sw0, e0, ok0⟩ := hd' 0 (mem_of (by kernel_rfl))
      clear hd'
      rw [hT u, e0]
      have HCY := Lib.hid (show Calls _ _ _ W' (RetNd W' (stN (leafN 97))) from rep_any (leafN 97) sw0 0 (-1) W' ok0 (lv_small _ (by simp [leafN, leftN, leftL])))
      go_wp2_with (go_at_call 13; refine HCY.out.mono ?_; rintro e w6 ⟨sv6, rfl, hn6, hx6⟩)
      exact stepQ_mk ⟨hx6, _, by first | (rw [hT]; simp [updN, e0]) | simp [updN, e0], ⟨sv6, rfl, hn6.ok⟩⟩
    · intro u W' hx hd'
      obtain ⟨sw1, e1, ok1⟩ := hd' 1 (mem_of (by kernel_rfl))
      clear hd'
      rw [hT u, e1]
      have HCY := Lib.hid (show Calls _ _ _ W' (RetNd W' (lvA)) from tgroup_any 1 (stN (leafN 97)) sw1 W' ok1 (lv_small _ (by simp [stN, leafN, leftN, leftL])))
      go_wp2_with (go_at_call 12; refine HCY.out.mono ?_; rintro e w6 ⟨sv6, rfl, hn6, hx6⟩)
      exact stepQ_mk ⟨hx6, _, by first | (rw [hT]; simp [updN, e1]) | simp [updN, e1], ⟨sv6, rfl, hn6.ok⟩⟩
    · intro u W' hx hd'
      clear hd'
      rw [hT u]
      have HCY := Lib.hid (show Calls _ _ _ W' (RetNd W' (textN [97, 98])) from text_any ⟨#[97, 98]⟩ W' (by decide))
      go_wp2_with (go_at_call 10; refine HCY.out.mono ?_; rintro e w6 ⟨sv6, rfl, hn6, hx6⟩)
      exact stepQ_mk ⟨hx6, _, by first | (rw [hT]; simp [updN]) | simp [updN], ⟨sv6, rfl, hn6.ok⟩⟩
    · intro u W' hx hd'
      obtain ⟨sw3, e3, ok3⟩ := hd' 3 (mem_of (by kernel_rfl))
      clear hd'
      rw [hT u, e3]
      have HCY := Lib.hid (show Calls _ _ _ W' (RetNd W' (lvG)) from tgroup_any 2 (textN [97, 98]) sw3 W' ok3 (lv_small _ (by simp [lv_text, leafN, leftN, leftL])))
      go_wp2_with (go_at_call 12; refine HCY.out.mono ?_; rintro e w6 ⟨sv6, rfl, hn6, hx6⟩)
      exact stepQ_mk ⟨hx6, _, by first | (rw [hT]; simp [updN, e3]) | simp [updN, e3], ⟨sv6, rfl, hn6.ok⟩⟩
    · intro u W' hx hd'
      obtain ⟨sw4, e4, ok4⟩ := hd' 4 (mem_of (by kernel_rfl))
      clear hd'
      rw [hT u, e4]
      have HCY := Lib.hid (show Calls _ _ _ W' (RetNd W' (stN lvG)) from rep_any lvG sw4 0 (-1) W' ok4 (lv_small _ (by simp [lvG, gpN, lv_text, leafN, leftN, leftL])))
      go_wp2_with (go_at_call 13; refine HCY.out.mono ?_; rintro e w6 ⟨sv6, rfl, hn6, hx6⟩)
      exact stepQ_mk ⟨hx6, _, by first | (rw [hT]; simp [updN, e4]) | simp [updN, e4], ⟨sv6, rfl, hn6.ok⟩⟩
    · intro u W' hx hd'
      clear hd'
      rw [hT u]
      have HOY := Lib.hid (NdOk.ext hx _ _ OK2.out)
      go_wp2_with (refine wpl_loadNd rfl _ rfl z4 0 (leafN 98).h sv2 rfl (HZ4.out.ext hx).nd ?_)
      exact stepQ_mk ⟨Ext.refl _, _, by first | (rw [hT]; simp [updN]) | simp [updN], ⟨sv2, rfl, HOY.out⟩⟩
    · intro u W' hx hd'
      obtain ⟨sw6, e6, ok6⟩ := hd' 6 (mem_of (by kernel_rfl))
      clear hd'
      rw [hT u, e6]
      have HCY := Lib.hid (show Calls _ _ _ W' (RetNd W' (stN (leafN 98))) from rep_any (leafN 98) sw6 0 (-1) W' ok6 (lv_small _ (by simp [leafN, leftN, leftL])))
      go_wp2_with (go_at_call 13; refine HCY.out.mono ?_; rintro e w6 ⟨sv6, rfl, hn6, hx6⟩)
      exact stepQ_mk ⟨hx6, _, by first | (rw [hT]; simp [updN, e6]) | simp [updN, e6], ⟨sv6, rfl, hn6.ok⟩⟩
    · intro u W' hx hd'
      obtain ⟨sw7, e7, ok7⟩ := hd' 7 (mem_of (by kernel_rfl))
      clear hd'
      rw [hT u, e7]
      have HCY := Lib.hid (show Calls _ _ _ W' (RetNd W' (lvB)) from tgroup_any 3 (stN (leafN 98)) sw7 W' ok7 (lv_small _ (by simp [stN, leafN, leftN, leftL])))
      go_wp2_with (go_at_call 12; refine HCY.out.mono ?_; rintro e w6 ⟨sv6, rfl, hn6, hx6⟩)
      exact stepQ_mk ⟨hx6, _, by first | (rw [hT]; simp [updN, e7]) | simp [updN, e7], ⟨sv6, rfl, hn6.ok⟩⟩
    · intro u W' hx hd'
      obtain ⟨sw2, e2, ok2⟩ := hd' 2 (mem_of (by kernel_rfl))
      obtain ⟨sw5, e5, ok5⟩ := hd' 5 (mem_of (by kernel_rfl))
      obtain ⟨sw8, e8, ok8⟩ := hd' 8 (mem_of (by kernel_rfl))
      clear hd'
      rw [hT u, e2, e5, e8]
      have HK2 := Lib.hid ok2
      have HK5 := Lib.hid ok5
      have HK8 := Lib.hid ok8
      go_wp2_with (refine wpl_threeNd rfl _ _ _ rfl lvA.h (stN lvG).h lvB.h sw2 sw5 sw8 rfl rfl rfl ?_; intro g6 w6 h61 h62 h63 hx6 e6)
      exact stepQ_mk ⟨hx6, .slice (some ⟨g6, 0, none⟩) 3 3, by first | (rw [hT]; simp [updN, e2, e5, e8]) | simp [updN, e2, e5, e8], NdOk.three (h := hdV 0) h61 (NdOk.ext hx6 _ _ HK2.out) h62 (NdOk.ext hx6 _ _ HK5.out) h63 (NdOk.ext hx6 _ _ HK8.out)⟩
    · intro u W' hx hd'
      have ok9 : NdOk W' (.mk (hdV 0) [lvA, stN lvG, lvB]) (u 9) := hd' 9 (mem_of (by kernel_rfl))
      clear hd'
      rw [hT u]
      have HCY := Lib.hid (show Calls _ _ _ W' (RetNd W' lvT) from seq_any [lvA, stN lvG, lvB] _ W' ok9 (lv_small _ (by simp [lvA, lvG, lvB, gpN, stN, lv_text, leafN, leftN, leftL])))
      obtain ⟨A9, c9, e9⟩ := ok9.shape
      clear ok9
      rw [e9] at HCY ⊢
      go_wp2_with (go_at_call 11; refine HCY.out.mono ?_; rintro e w6 ⟨sv6, rfl, hn6, hx6⟩)
      exact stepQ_mk ⟨hx6, _, by first | (rw [hT]; simp [updN, e9]) | simp [updN, e9], ⟨sv6, rfl, hn6.capZ lv_form⟩⟩
    · intro u W' hx hd'
      clear hd'
      rw [hT u]
      go_wp2_with (refine wpl_allocNd rfl rfl ?_; intro z6 w6 hz6 hx6 e6 s6)
      exact stepQ_mk ⟨hx6, .pointer (some ⟨z6, 0, none⟩), by first | (rw [hT]; simp [updN]) | simp [updN], ⟨z6, rfl, hz6, Nat.le_trans hx.size e6⟩⟩
    · intro u W' hx hp
      obtain ⟨sw, e10, hcz⟩ := hp 10 (by omega)
      obtain ⟨z, e11, hz, hze⟩ := hp 11 (by omega)
      clear hp
      rw [hT u, e10, e11]
      have hsl := hcz.1.ok.sl
      go_wp2_with (refine wpl_storeNd rfl _ _ rfl rfl z lvT.h _ sw _ rfl rfl hsl hz ?_; intro w7 hz7 hk7)
      go_meet
      case rel => exact ⟨z, sw, rfl, hz7, hcz.2 z w7 hk7 (hz.cell 0), hx.keep1 hk7 hze⟩
  obtain ⟨z, sv, rfl, hz, hcap, hx67⟩ := hcut
  obtain ⟨w7, hw7⟩ : ∃ w, w = wc := ⟨_, rfl⟩
  subst hw7
  have hx7 := HX6.out.trans hx67
  have HX7 := Lib.hid hx7
  have HEw := Lib.hid (HE.out.ext hx7)
  have HVw := Lib.hid (hx7.cell HV.out)
  have HTw := Lib.hid (HTB.out.ext hx7)
  have he4 : nodeA lvT.h sv = #[.int .i64 5, .int .u64 0, .int .u64 0, .int .u64 0, .int .u64 0, sv, .int .i64 0, .int .i64 0, .int .i64 0, .bool false] := by
    simp only [nodeA, nodeC, lvT, hdV, Nd.h]
    rfl
  have he5 : nodeV lvT.h sv = .agg #[.int .i64 5, .int .u64 0, .int .u64 0, .int .u64 0, .int .u64 0, sv, .int .i64 0, .int .i64 0, .int .i64 0, .bool false] := by
    simp only [nodeV, lvT, hdV, Nd.h]
    rfl
  rw [he4] at hz
  have HNew := Lib.hid (fun W => new_any lvS 0 0 W (by decide))
  have HFn : Hid (∀ W p (_ : Ext w7 W) (_ : IsScene W p lvS (mkAt lvS 0 0 lvS.size)), Calls Tryd.prog 8 #[.agg #[.int .i64 5, .int .u64 0, .int .u64 0, .int .u64 0, .int .u64 0, sv, .int .i64 0, .int .i64 0, .int .i64 0, .bool false], p, .int .i64 0, .int .i64 3] W fun r w' => ∃ g cp, r = .returned (.tuple #[.slice (some ⟨g, 0, none⟩) 4 cp, .bool true, .nilIface]) ∧ OwnSp w' W.heap.size (.slice (some ⟨g, 0, none⟩) 4 cp) [(0, 3), (0, 1), (-1, -1), (1, 3)] ∧ Ext W w') := Lib.hid (fun W p hW hs => by
    have h := find_any (x := p) lvT sv 0 3 W A 100 (NdCap.ext hW hcap) hs (HTw.out.ext hW) (HEw.out.ext hW) (hW.cell HVw.out) (by omega) lv_few (by decide) (by decide)
    rw [he5] at h
    refine h.mono fun r w' hr => ?_
    have hk : askN lvT lvS.size 3 [0] = 0 := by unfold askN; rw [lv_chk]; decide
    rcases hr with ⟨h0, _⟩ | ⟨_, h1, _⟩ | ⟨_, l, g, c, h1, h2, h3, h4⟩
    · exact absurd hk h0
    · rw [show (0 : Int).toNat = 0 from rfl, show (3 : Int).toNat = 3 from rfl, lv_find] at h1; cases h1
    · rw [show (0 : Int).toNat = 0 from rfl, show (3 : Int).toNat = 3 from rfl, lv_find] at h1
      simp only [Option.some.injEq] at h1
      subst h1
      exact ⟨g, c, h2, h3, h4⟩)
  have KS := Lib.hid (fun w' (hw' : Ext w7 w') => (⟨(hz.ext hw').cell 0, (hz.ext hw').cell 1, (hz.ext hw').cell 2, (hz.ext hw').cell 3, (hz.ext hw').cell 4, (hz.ext hw').cell 5, (hz.ext hw').cell 6, (hz.ext hw').cell 7, (hz.ext hw').cell 8, (hz.ext hw').cell 9⟩ :
    (w'.cell? ⟨z, 0, none⟩ = some (.int .i64 5) ∧ w'.cell? ⟨z, 1, none⟩ = some (.int .u64 0) ∧ w'.cell? ⟨z, 2, none⟩ = some (.int .u64 0) ∧ w'.cell? ⟨z, 3, none⟩ = some (.int .u64 0) ∧ w'.cell? ⟨z, 4, none⟩ = some (.int .u64 0) ∧ w'.cell? ⟨z, 5, none⟩ = some sv ∧ w'.cell? ⟨z, 6, none⟩ = some (.int .i64 0) ∧ w'.cell? ⟨z, 7, none⟩ = some (.int .i64 0) ∧ w'.cell? ⟨z, 8, none⟩ = some (.int .i64 0) ∧ w'.cell? ⟨z, 9, none⟩ = some (.bool false))))
  obtain ⟨A5, c5, hsv, _⟩ := hcap
  simp only [List.length_cons, List.length_nil] at hsv
  subst hsv
  clear hz he4 he5 hx67 hx7 HEw HVw HTw OK1 OK2 HZ3 HZ4
  go_upto_region 3 with fail
  go_region_held3 (fun w' => w'.cell? ⟨z, 0, none⟩ = some (.int .i64 5) ∧ w'.cell? ⟨z, 1, none⟩ = some (.int .u64 0) ∧ w'.cell? ⟨z, 2, none⟩ = some (.int .u64 0) ∧ w'.cell? ⟨z, 3, none⟩ = some (.int .u64 0) ∧ w'.cell? ⟨z, 4, none⟩ = some (.int .u64 0) ∧ w'.cell? ⟨z, 5, none⟩ = some (.slice A5 3 c5) ∧ w'.cell? ⟨z, 6, none⟩ = some (.int .i64 0) ∧ w'.cell? ⟨z, 7, none⟩ = some (.int .i64 0) ∧ w'.cell? ⟨z, 8, none⟩ = some (.int .i64 0) ∧ w'.cell? ⟨z, 9, none⟩ = some (.bool false))
    ((first | exact KS.out _ (Ext.refl _).drew | exact KS.out _ hX9 | exact KS.out _ hX8))
    (first
      | (go_at_call 7; refine (HNew.out _).mono ?_; rintro e w8 ⟨⟨xv, rfl, hsN⟩, hx8⟩; have hX8 : Ext w7 w8 := (Ext.refl w7).drewr.trans hx8)
      | (go_at_call 8; refine (HFn.out _ xv hX8 hsN).mono ?_; rintro e w9 ⟨g9, c9, rfl, hO9, hx9⟩; have hX9 : Ext w7 w9 := hX8.trans hx9))
  all_goals
    have hR9 := RdSn.of_own hO9
    have HSm := Lib.hid (fun W g (hW : Ext w9 W) (hB : Blk W g 42 #[.int .i64 0, .int .i64 3, .int .i64 0, .int .i64 1, .int .i64 (-1), .int .i64 (-1), .int .i64 1, .int .i64 3]) => sameSpans_any _ _ _ _ W (by decide) (hR9.ext hW) (lit4 hB))
    have hX := HX7.out.trans hX9
    clear hsN hx8 hX8 hx9 hX9 hR9 hO9 HFn HNew KS HX7
    go_wp2_with (first
      | (go_at_call 9; ((with_reducible refine (HSm.out _ _ ((Ext.refl w9).alloc _) (Blk.new w9 _ _)).mono ?_); rintro e w10 ⟨rfl, hx10⟩; have hX10 : Ext w9 w10 := ((Ext.refl w9).alloc _).trans hx10)))
    go_ret
    exact ⟨rfl, hX.trans hX10⟩

end Go.Proofs.YtgfknlkpdiejgaaDoor

namespace Go.Proofs.YtgfknlkpdiejgaaDoor
open Go Go.RowKit

theorem min_if3 (a : Int) : Min.min a 2001 = if a < 2001 then a else 2001 := by rw [Int.min_def]; split <;> split <;> omega
theorem count_any2 (a b : Int) (w : World) (ha : 0 ≤ a ∧ a ≤ 1000000) (hb : 0 ≤ b ∧ b ≤ 1000000) :
    Calls Tryd.prog 47 #[.int .i64 a, .int .i64 b] w fun r w' => r = .returned (.int .i64 (Min.min (a + b) 2001)) ∧ w = w' := by
  have q1 : IntKind.i64.wrap (a + b) = a + b := by rw [IntKind.wrap_i64]; omega
  go_enter Tryd.func47, Tryd.ntmps47
  by_cases h : a + b < 2001
  all_goals
    go_wp2
    go_ret
    exact ⟨by rw [min_if3]; first | (rw [if_pos (by omega)]; rfl) | (rw [if_neg (by omega)]; rfl), rfl⟩
theorem min_le {a : Int} (h : 0 ≤ a) : 0 ≤ Min.min a 2001 ∧ Min.min a 2001 ≤ 1000000 := by omega
theorem min_step (a b : Int) (ha : 0 ≤ a) (hb : 0 ≤ b) : Min.min (Min.min a 2001 + Min.min b 2001) 2001 = Min.min (a + b) 2001 := by omega
/-- The parts of a repeat, laid one behind the other. -/
def partsZ (h : Hd) (s : Int) : Int := (h.min.toNat : Int) * s + ((h.max - h.min).toNat : Int) * (s + 1) + (if h.max = -1 then s + 1 else 0)
def manyZ (h : Hd) : Int := h.min.toNat + (h.max - h.min).toNat + (if h.max = -1 then 1 else 0)
theorem parts_rounds (h : Hd) (s : Int) (h0 : 0 ≤ h.min) (h2 : h.max = -1 ∨ h.min ≤ h.max) (hm : h.max ≠ 0) : roundsZ h s = partsZ h s + (if 1 < manyZ h then 1 else 0) := by
  obtain ⟨kind, set, num, mn, mx, bare⟩ := h
  simp only at h0 h2 hm
  unfold roundsZ partsZ manyZ
  simp only
  rcases h2 with rfl | h2
  · have e : (-1 - mn).toNat = 0 := by omega
    have e2 : (mn.toNat : Int) = mn := by omega
    rw [e, e2, if_neg (by omega)]
    simp only [if_true, Int.natCast_zero, Int.zero_mul, Int.add_zero]
    by_cases h3 : mn = 0
    · rw [if_pos ⟨h3, .inr trivial⟩, if_neg (by omega), h3, Int.zero_mul]; omega
    · rw [if_neg (fun h => h3 h.1), if_pos (by omega)]; omega
  · have e : ((mx - mn).toNat : Int) = mx - mn := by omega
    have e2 : (mn.toNat : Int) = mn := by omega
    rw [e, e2]
    have n1 : ¬ mx = -1 := by omega
    rw [if_neg n1, if_neg n1, if_neg n1]
    have ec : (mx - mn) * (1 + s) = (mx - mn) * (s + 1) := by rw [Int.add_comm 1 s]
    by_cases h3 : mn = 1 ∧ mx = 1
    · obtain ⟨rfl, rfl⟩ := h3
      rw [if_pos ⟨rfl, rfl⟩, if_neg (by omega)]
      simp
    · rw [if_neg h3]
      by_cases h4 : mn = 0 ∧ (mx = 1 ∨ mx = -1)
      · obtain ⟨rfl, h5⟩ := h4
        have : mx = 1 := by omega
        subst this
        rw [if_pos ⟨rfl, .inl rfl⟩, if_neg (by omega)]
        simp; omega
      · rw [if_neg h4, if_pos (by omega), ec]; omega

set_option maxRecDepth 100000 in
set_option maxHeartbeats 8000000 in
theorem size04_any : ∀ (n : Nd) (sv : Value) (w : World), NdOk w n sv → smallN n → formB n = true →
    Calls Tryd.prog 30 #[nodeV n.h sv] w fun r w' => r = .returned (.int .i64 (sizeN n)) ∧ Ext w w' := by
  refine Nd.ind fun hd subs ih sv w hn hsm hfm => ?_
  obtain ⟨A, c, rfl⟩ := hn.shape
  obtain ⟨hlen, hsm⟩ := hsm
  rw [formB, Bool.and_eq_true] at hfm
  obtain ⟨hfd, hfl⟩ := hfm
  have IH := Lib.hid (fun n hm sv w hn hf => ih n hm sv w hn (smallL_mem hsm n hm) hf)
  have HN := Lib.hid hn
  have HFL := Lib.hid hfl
  have hrep := fun hk => formed_rep hfd hk
  have hone := fun hk => formed_one hfd hk
  have HZ := Lib.hid (show sizeN (.mk hd subs) = if hd.kind = 8 ∧ hd.max = 0 then 1 else Min.min (if hd.kind = 8 then roundsZ hd (sizeA 0 subs) else sizeA 0 subs + 1) 2001 by rw [sizeN])
  clear ih hsm hfl hn hfd
  generalize sizeN (.mk hd subs) = ss at *
  simp only [Nd.h, Nd.subs] at *
  go_enter Tryd.func30, Tryd.ntmps30
  go_upto_region 1 with (refine wpl_boxNd rfl _ rfl hd _ rfl ?_; intro b w1 hb hx1 eb sb)
  have c0 : w1.cell? ⟨b, 0, none⟩ = some (.int .i64 hd.kind) := hb.cell 0
  have c5 : w1.cell? ⟨b, 5, none⟩ = some (.slice A subs.length c) := hb.cell 5
  have c7 : w1.cell? ⟨b, 7, none⟩ = some (.int .i64 hd.min) := hb.cell 7
  have c8 : w1.cell? ⟨b, 8, none⟩ = some (.int .i64 hd.max) := hb.cell 8
  have hx11 : Ext w1 w1 := Ext.refl w1
  clear hb
  by_cases hk : hd.kind = 8
  · obtain ⟨r1, r2, r3⟩ := hrep hk
    obtain ⟨x, rfl⟩ := hone hk
    clear hrep hone
    by_cases hm : hd.max = 0
    · have HS := Lib.hid (show ss = 1 by rw [HZ.out, if_pos ⟨hk, hm⟩])
      rw [hm] at c8
      rw [hk] at c0
      clear IH HN HFL HZ hk hm c5 c7 r1 r2 r3
      go_wp2
      go_ret
      exact ⟨by rw [HS.out]; rfl, hx1⟩
    · have hfx : formB x = true := by rw [← formL_one]; exact HFL.out
      have hsx := sizeN_range x hfx
      have HS := Lib.hid (show ss = Min.min (partsZ hd (sizeN x) + (if 1 < manyZ hd then 1 else 0)) 2001 by
        rw [HZ.out, if_neg (fun h => hm h.2), if_pos hk, ← parts_rounds hd _ r1 (r3.imp id (·.1)) hm, sizeA, sizeA]
        congr 2
        omega)
      have HPZ := Lib.hid (show partsZ hd (sizeN x) = (hd.min.toNat : Int) * sizeN x + ((hd.max - hd.min).toNat : Int) * (sizeN x + 1) + (if hd.max = -1 then sizeN x + 1 else 0) from rfl)
      have HMZ := Lib.hid (show manyZ hd = hd.min.toNat + (hd.max - hd.min).toNat + (if hd.max = -1 then 1 else 0) from rfl)
      obtain ⟨g0, o0, svx, rfl, hat, hok⟩ := HN.out.get 0 (by simp)
      simp only [List.getElem_cons_zero, Nat.zero_mul, Nat.add_zero] at hat hok
      have IHx := Lib.hid (IH.out x (by simp) svx w1 (hok.ext hx1) hfx)
      replace hat := hat.ext hx1
      rw [hk] at c0
      clear IH HN HFL HZ hfx hok hk
      simp only [List.length_cons, List.length_nil] at *
      generalize sizeN x = s at *
      generalize partsZ hd s = pz at *
      generalize manyZ hd = mz at *
      generalize hd.min = mn at *
      generalize hd.max = mx at *
      have k8 : (mx == 0) = false := by simpa using hm
      go_upto_region 11 with (first
        | (refine wpl_loadNd rfl _ rfl g0 o0 x.h svx rfl hat ?_)
        | (go_at_call 30; refine IHx.out.mono ?_; rintro e w2 ⟨rfl, hx2⟩))
      replace c7 := hx2.cell c7
      replace c8 := hx2.cell c8
      have hx12 := hx1.trans hx2
      clear IHx hat c0 c5 hx11 hx1 hx2
      have hMul : ∀ k : Nat, 0 ≤ (k : Int) * s ∧ 0 ≤ (k : Int) * (s + 1) := fun k => ⟨Int.mul_nonneg (by omega) hsx.1, Int.mul_nonneg (by omega) (by omega)⟩
      have HMU := Lib.hid hMul
      clear hMul
      go_wp2
      go_loop [6, 7, 8] (fun p n i => ∃ k : Nat, k ≤ mn.toNat ∧ i = .int .i64 k ∧ p = .int .i64 k ∧ n = .int .i64 (Min.min ((k : Int) * s) 2001)) (fun _ _ i => mn.toNat - (intOf i).toNat)
      case atStart => exact ⟨0, Nat.zero_le _, rfl, rfl, by rw [Int.natCast_zero, Int.zero_mul]; rfl⟩
      case round =>
        obtain ⟨k, hk, rfl, rfl, rfl⟩ := hrel
        have hmk := HMU.out k
        by_cases hlt : (k : Int) < mn
        · have HC := Lib.hid (count_any2 (Min.min ((k : Int) * s) 2001) s w2 (min_le hmk.1) ⟨hsx.1, by omega⟩)
          have HE := Lib.hid (show Min.min (Min.min ((k : Int) * s) 2001 + s) 2001 = Min.min (((k + 1 : Nat) : Int) * s) 2001 by
            rw [show ((k + 1 : Nat) : Int) * s = (k : Int) * s + s by rw [Int.natCast_succ, Int.add_mul, Int.one_mul]]
            omega)
          have q8 : IntKind.i64.wrap ((k : Int) + 1) = ((k + 1 : Nat) : Int) := by rw [IntKind.wrap_i64]; omega
          rw [HE.out] at HC
          generalize Min.min ((k : Int) * s) 2001 = acc at *
          generalize hacc : Min.min (((k + 1 : Nat) : Int) * s) 2001 = acc2 at *
          have HAC := Lib.hid hacc
          clear hacc
          clear HS HPZ HMZ HE
          go_wp2_with (go_at_call 47; refine HC.out.mono ?_; rintro e w6 ⟨rfl, rfl⟩)
          go_round
          case rel => exact ⟨k + 1, by omega, rfl, rfl, by rw [HAC.out]⟩
          case measure => simp [intOf]; omega
        · have hkm : k = mn.toNat := by omega
          subst hkm
          have HK := Lib.hid (show ((mn.toNat : Nat) : Int) = mn by omega)
          generalize hmn : mn.toNat = kk at *
          have hkb : (kk : Int) ≤ 255 := by omega
          clear hmn hk
          have hMk := (HMU.out kk).1
          generalize (kk : Int) * s = base at *
          go_wp2
          go_loop [6, 7, 9] (fun p n i => ∃ m : Nat, m ≤ (mx - mn).toNat ∧ i = .int .i64 (mn + m) ∧ p = .int .i64 (kk + m) ∧ n = .int .i64 (Min.min (base + (m : Int) * (s + 1)) 2001)) (fun _ _ i => (mx - intOf i).toNat)
          case atStart => exact ⟨0, Nat.zero_le _, by simp, by simp, by simp⟩
          case round =>
            obtain ⟨m, hm', rfl, rfl, rfl⟩ := hrel
            have hmk := (HMU.out m).2
            generalize hacc : base + (m : Int) * (s + 1) = acc at *
            have hacc0 : 0 ≤ acc := by omega
            by_cases hlt2 : mn + (m : Int) < mx
            · have HC := Lib.hid (count_any2 (Min.min acc 2001) s w2 (min_le hacc0) ⟨hsx.1, by omega⟩)
              have HC2 := Lib.hid (count_any2 (Min.min (acc + s) 2001) 1 w2 (min_le (by omega)) (by omega))
              have HE := Lib.hid (show Min.min (Min.min acc 2001 + s) 2001 = Min.min (acc + s) 2001 by omega)
              have HE2 := Lib.hid (show Min.min (Min.min (acc + s) 2001 + 1) 2001 = Min.min (base + ((m + 1 : Nat) : Int) * (s + 1)) 2001 by
                rw [show ((m + 1 : Nat) : Int) * (s + 1) = (m : Int) * (s + 1) + (s + 1) by rw [Int.natCast_succ, Int.add_mul, Int.one_mul], ← Int.add_assoc, hacc]
                omega)
              rw [HE.out] at HC
              rw [HE2.out] at HC2
              have q8 : IntKind.i64.wrap ((kk : Int) + m + 1) = (kk : Int) + m + 1 := by rw [IntKind.wrap_i64]; omega
              have q9 : IntKind.i64.wrap (mn + (m : Int) + 1) = mn + m + 1 := by rw [IntKind.wrap_i64]; omega
              clear HS HPZ HMZ HE HE2 hacc HK
              generalize Min.min acc 2001 = v1 at *
              generalize Min.min (acc + s) 2001 = v2 at *
              generalize hv3 : Min.min (base + ((m + 1 : Nat) : Int) * (s + 1)) 2001 = v3 at *
              have HV3 := Lib.hid hv3
              clear hv3
              go_wp2_with (first
                | (go_at_call 47; refine HC.out.mono ?_; rintro e w6 ⟨rfl, rfl⟩)
                | (go_at_call 47; refine HC2.out.mono ?_; rintro e w6 ⟨rfl, rfl⟩))
              go_round
              case rel => exact ⟨m + 1, by omega, by congr 1; omega, by congr 1, by rw [HV3.out]⟩
              case measure => simp [intOf]; omega
            · have hmm : m = (mx - mn).toNat := by omega
              have HMM := Lib.hid hmm
              have HAC := Lib.hid hacc
              clear hmm hacc
              by_cases h1 : mx = -1
              · subst h1
                have HSS := Lib.hid (show ss = Min.min (acc + (s + 1) + (if 1 < (kk : Int) + m + 1 then 1 else 0)) 2001 by
                  rw [HS.out, HPZ.out, HMZ.out, if_pos rfl, if_pos rfl, ← HMM.out, HAC.out])
                have HC := Lib.hid (count_any2 (Min.min acc 2001) s w2 (min_le hacc0) ⟨hsx.1, by omega⟩)
                have HC2 := Lib.hid (count_any2 (Min.min (acc + s) 2001) 1 w2 (min_le (by omega)) (by omega))
                have HC3 := Lib.hid (count_any2 (Min.min (acc + (s + 1)) 2001) 1 w2 (min_le (by omega)) (by omega))
                have HE := Lib.hid (show Min.min (Min.min acc 2001 + s) 2001 = Min.min (acc + s) 2001 by omega)
                have HE2 := Lib.hid (show Min.min (Min.min (acc + s) 2001 + 1) 2001 = Min.min (acc + (s + 1)) 2001 by omega)
                have HE3 := Lib.hid (show Min.min (Min.min (acc + (s + 1)) 2001 + 1) 2001 = Min.min (acc + (s + 1) + 1) 2001 by omega)
                rw [HE.out] at HC
                rw [HE2.out] at HC2
                rw [HE3.out] at HC3
                have q8 : IntKind.i64.wrap ((kk : Int) + m + 1) = (kk : Int) + m + 1 := by rw [IntKind.wrap_i64]; omega
                clear HS HPZ HMZ HE HE2 HE3 HAC HMM HK hm k8
                by_cases hp : 1 < (kk : Int) + m + 1
                all_goals
                  have HSF := Lib.hid HSS.out
                  first | rw [if_pos hp] at HSF | (rw [if_neg hp, Int.add_zero] at HSF)
                  clear HSS
                  generalize Min.min acc 2001 = v1 at *
                  generalize Min.min (acc + s) 2001 = v2 at *
                  generalize Min.min (acc + (s + 1)) 2001 = v3 at *
                  try generalize Min.min (acc + (s + 1) + 1) 2001 = v4 at *
                  go_wp2_with (first
                    | (go_at_call 47; refine HC.out.mono ?_; rintro e w6 ⟨rfl, rfl⟩)
                    | (go_at_call 47; refine HC2.out.mono ?_; rintro e w6 ⟨rfl, rfl⟩)
                    | (go_at_call 47; refine HC3.out.mono ?_; rintro e w6 ⟨rfl, rfl⟩))
                  go_ret
                  exact ⟨by rw [HSF.out]; rfl, hx12⟩
              · have HSS := Lib.hid (show ss = Min.min (acc + (if 1 < (kk : Int) + m then 1 else 0)) 2001 by
                  rw [HS.out, HPZ.out, HMZ.out, if_neg h1, if_neg h1, ← HMM.out, HAC.out, Int.add_zero, Int.add_zero])
                have HC := Lib.hid (count_any2 (Min.min acc 2001) 1 w2 (min_le hacc0) (by omega))
                have HE := Lib.hid (show Min.min (Min.min acc 2001 + 1) 2001 = Min.min (acc + 1) 2001 by omega)
                rw [HE.out] at HC
                have n1 : (mx == -1) = false := by simpa using h1
                clear HS HPZ HMZ HE HAC HMM HK hm k8
                by_cases hp : 1 < (kk : Int) + m
                all_goals
                  have HSF := Lib.hid HSS.out
                  first | rw [if_pos hp] at HSF | (rw [if_neg hp, Int.add_zero] at HSF)
                  clear HSS
                  generalize Min.min acc 2001 = v1 at *
                  try generalize Min.min (acc + 1) 2001 = v2 at *
                  go_wp2_with (go_at_call 47; refine HC.out.mono ?_; rintro e w6 ⟨rfl, rfl⟩)
                  go_ret
                  exact ⟨by rw [HSF.out]; rfl, hx12⟩
  · have HS := Lib.hid (show ss = Min.min (sizeA 0 subs + 1) 2001 by rw [HZ.out, if_neg (fun h => hk h.1), if_neg hk])
    have n1 : (hd.kind != 8) = true := by simpa using hk
    clear hrep hone HZ hk c7 c8
    generalize hd.kind = kind at *
    go_wp2
    go_loopw [3, 4] (fun a i wr => ∃ k : Nat, k ≤ subs.length ∧ i = .int .i64 k ∧ a = .int .i64 (Min.min (sizeA 0 (subs.take k) + 1) 2001) ∧ Ext w1 wr) (fun _ i _ => subs.length - (intOf i).toNat)
    case atStart => exact ⟨0, Nat.zero_le _, rfl, by rw [List.take_zero, sizeA]; rfl, hx11⟩
    case round =>
      clear hx11 c0 n1
      obtain ⟨k, hk', rfl, rfl, hx⟩ := hrel
      have hxw := hx1.trans hx
      replace c5 := hx.cell c5
      by_cases hlt : k < subs.length
      · have hfk : formL (subs.take k) = true := by
          have h1 := HFL.out
          rw [← List.take_append_drop k subs, formL_app, Bool.and_eq_true] at h1
          exact h1.1
        obtain ⟨r1, r2⟩ := sizeA_range (subs.take k) 0 hfk (by omega) (by omega)
        obtain ⟨g0, o0, sv, rfl, hat, hok⟩ := HN.out.get k hlt
        have hfn : formB subs[k] = true := by
          have h1 := HFL.out
          rw [← List.take_append_drop (k + 1) subs, formL_app, take_snoc subs k hlt, formL_app, formL_one, Bool.and_eq_true, Bool.and_eq_true] at h1
          exact h1.1.2
        obtain ⟨r3, r4⟩ := sizeN_range _ hfn
        replace hat := hat.ext hxw
        have IHk := Lib.hid (IH.out subs[k] (List.getElem_mem hlt) sv wr (NdOk.ext hxw _ _ hok) hfn)
        have HST := Lib.hid (show Min.min (sizeA 0 (subs.take (k + 1)) + 1) 2001 = Min.min (Min.min (sizeA 0 (subs.take k) + 1) 2001 + sizeN subs[k]) 2001 by rw [take_snoc subs k hlt, sizeA_app, sizeA, sizeA]; omega)
        have HC := Lib.hid (fun W => count_any2 (Min.min (sizeA 0 (subs.take k) + 1) 2001) (sizeN subs[k]) W (min_le (by omega)) ⟨r3, by omega⟩)
        rw [← HST.out] at HC
        clear IH HN HFL hok hfk hfn HS
        generalize Min.min (sizeA 0 (subs.take k) + 1) 2001 = v1 at *
        generalize hv2 : Min.min (sizeA 0 (subs.take (k + 1)) + 1) 2001 = v2 at *
        have HV2 := Lib.hid hv2
        clear hv2 HST
        generalize sizeN subs[k] = res at *
        generalize subs[k] = nk at *
        have t1 : (k : Int) < (subs.length : Int) := by omega
        go_wp2_with (first
          | (refine wpl_loadNd rfl _ rfl g0 (o0 + k * 10) nk.h sv rfl hat ?_)
          | (go_at_call 30; refine IHk.out.mono ?_; rintro e w6 ⟨rfl, hx6⟩)
          | (go_at_call 47; refine (HC.out _).mono ?_; rintro e w7 ⟨rfl, rfl⟩))
        go_roundw
        case rel => exact ⟨k + 1, by omega, by go_num, by rw [HV2.out], hx.trans hx6⟩
        case measure => simp [intOf]; omega
      · have hkl : subs.take k = subs := List.take_of_length_le (by omega)
        rw [hkl]
        have t1 : ¬ (k : Int) < (subs.length : Int) := by omega
        rw [← HS.out]
        clear IH HN HFL hkl HS
        go_wp2
        go_ret
        exact ⟨rfl, hxw⟩

end Go.Proofs.YtgfknlkpdiejgaaDoor

namespace Go.Proofs.YtgfknlkpdiejgaaDoor
open Go Go.RowKit

section
variable {ops : Array Oper} {rest : List Oper} {o : Oper} {a : Act} {w : World} {Q : Exit → Act → World → Prop}
/-- The store of one cell of a block. -/
theorem wpl_storeCell (hgd : o.guard = none) (ty : TypeId) (x y : Operand) (ho : o.op = .store ty x y) (hd : o.dst = none) (g k : Nat) (v u : Value) (hx : a.eval x = .pointer (some ⟨g, k, none⟩)) (hy : a.eval y = v) (hi : (Tryd.prog.info? ty).map (·.size) = some 1) (h1 : v.oneCell' = true) (t : TypeId) (cs : Array Value) (hB : Blk w g t cs) (hc : cs[k]? = some u)
    (hK : ∀ w1, Blk w1 g t (cs.setIfInBounds k v) → Keeps (· = g) w w1 → wpList Tryd.prog ops Q rest a w1) : wpList Tryd.prog ops Q (o :: rest) a w := by
  have hpa : a.put o.dst undef = a := by rw [hd]; rfl
  rw [← hpa] at hK
  refine wpList_plain hgd fun _ hKK => ?_
  have hc : w.cell? ⟨g, k, none⟩ = some u := by rw [hB.cell]; exact hc
  unfold Oper.wp execOp
  simp only [ho, hx, hy, Instr.storeAt, Instr.sureAddr, Sem.run_bind, Sem.run_pure, Result.andThen_ok, run_storeVar_cell (P := Tryd.prog) w g k ty v u hc (hB.frozen k) hi h1]
  exact hKK _ _ (hK _ (hB.set k _) ((Keeps.refl (· = g) w).setCell (.inr rfl) _))
theorem info_set4 (p : Nat → Bool) : (Tryd.prog.info? 24).map (·.size) = some (#[Value.int .u64 (wd p 0 : Int), .int .u64 (wd p 1 : Int), .int .u64 (wd p 2 : Int), .int .u64 (wd p 3 : Int)] : Array Value).size := by kernel_rfl
/-- The store of a node's set. -/
theorem wpl_storeSetIn (hgd : o.guard = none) (x y : Operand) (ho : o.op = .store 24 x y) (hd : o.dst = none) (g : Nat) (h : Hd) (sv : Value) (p : Nat → Bool) (hx : a.eval x = .pointer (some ⟨g, 1, none⟩)) (hy : a.eval y = .agg #[.int .u64 (wd p 0 : Int), .int .u64 (wd p 1 : Int), .int .u64 (wd p 2 : Int), .int .u64 (wd p 3 : Int)]) (hB : Blk w g 27 (nodeA h sv))
    (hK : ∀ w1, Blk w1 g 27 (nodeA { h with set := p } sv) → Keeps (· = g) w w1 → wpList Tryd.prog ops Q rest a w1) : wpList Tryd.prog ops Q (o :: rest) a w := by
  have hpa : a.put o.dst undef = a := by rw [hd]; rfl
  rw [← hpa] at hK
  have hs : w.setCells g 1 [.int .u64 (wd p 0 : Int), .int .u64 (wd p 1 : Int), .int .u64 (wd p 2 : Int), .int .u64 (wd p 3 : Int)] = (((w.setCell ⟨g, 1, none⟩ (.int .u64 (wd p 0 : Int))).setCell ⟨g, 2, none⟩ (.int .u64 (wd p 1 : Int))).setCell ⟨g, 3, none⟩ (.int .u64 (wd p 2 : Int))).setCell ⟨g, 4, none⟩ (.int .u64 (wd p 3 : Int)) := rfl
  refine wpList_store_mid hgd 24 x y ho g 1 _ hx hy (fun i hi => ⟨?_, hB.frozen _⟩) (info_set4 p) (by simp [Value.oneCell']) (hK _ ?_ ?_)
  · have hi4 : i < 4 := hi
    rw [hB.cell, nodeA_get]
    rcases (show i = 0 ∨ i = 1 ∨ i = 2 ∨ i = 3 from by omega) with rfl | rfl | rfl | rfl <;> rfl
  · rw [hs]
    exact (((hB.set 1 _).set 2 _).set 3 _).set 4 _
  · rw [hs]
    exact ((((Keeps.refl (· = g) w).setCell (.inr rfl) _).setCell (.inr rfl) _).setCell (.inr rfl) _).setCell (.inr rfl) _
end
theorem info_int1 : (Tryd.prog.info? 3).map (·.size) = some 1 := by kernel_rfl
theorem info_bool1 : (Tryd.prog.info? 4).map (·.size) = some 1 := by kernel_rfl

/-- A node with nothing but what its kind uses. -/
def usedH (h : Hd) : Hd := ⟨h.kind, if h.kind = 2 then h.set else noS, if h.kind = 7 then h.num else 0, if h.kind = 8 then h.min else 0, if h.kind = 8 then h.max else 0, if h.kind = 8 then h.bare else false⟩

set_option maxRecDepth 100000 in
set_option maxHeartbeats 4000000 in
theorem used_any (h : Hd) (sv : Value) (hsv : isSl sv) (w : World) :
    Calls Tryd.prog 46 #[nodeV h sv] w fun r w' => r = .returned (nodeV (usedH h) (.slice none 0 0)) ∧ Ext w w' := by
  obtain ⟨A, len, c, rfl⟩ := hsv
  go_enter Tryd.func46, Tryd.ntmps46
  go_upto_region 1 with (first
    | (refine wpl_boxNd rfl _ rfl h _ rfl ?_; intro b w1 hb hx1 eb sb)
    | (refine wpl_allocNd rfl rfl ?_; intro z w2 hz hx2 ez sz))
  have hb2 := hb.ext hx2
  have hx12 := hx1.trans hx2
  have c0 : w2.cell? ⟨b, 0, none⟩ = some (.int .i64 h.kind) := hb2.cell 0
  have hwz : w.heap.size ≤ z := by omega
  clear hb hx1 hx2 eb sb ez
  go_upto_region 2 with (first
    | (refine wpl_allocNd rfl rfl ?_; intro s w3 hs hx3 es ss)
    | (refine wpl_storeNd rfl _ _ rfl rfl s ⟨h.kind, noS, 0, 0, 0, false⟩ _ (.slice none 0 0) _ rfl (node_lit _ _ _ _ _ _) (isSl_mk _ _ _) hs ?_; intro w4 hs4 hk4))
  have hx4 := hx3.keep1 hk4 es
  have hb4 := hb2.ext hx4
  have hz4 := hz.ext hx4
  have hxw := hx12.trans hx4
  have hsz : z < s := by omega
  have hws : w.heap.size ≤ s := by omega
  have hbs : b < s := by have := hb2.lt; omega
  have k0 : w4.cell? ⟨b, 0, none⟩ = some (.int .i64 h.kind) := hb4.cell 0
  clear c0 hb2 hz hx12 hx3 hx4 hs hk4 es ss sz
  obtain ⟨kind, set, num, mn, mx, bare⟩ := h
  simp only at *
  by_cases k2 : kind = 2
  · subst k2
    have k1 : w4.cell? ⟨b, 1, none⟩ = some (.int .u64 (wd set 0 : Int)) := hb4.cell 1
    have k2 : w4.cell? ⟨b, 2, none⟩ = some (.int .u64 (wd set 1 : Int)) := hb4.cell 2
    have k3 : w4.cell? ⟨b, 3, none⟩ = some (.int .u64 (wd set 2 : Int)) := hb4.cell 3
    have k4 : w4.cell? ⟨b, 4, none⟩ = some (.int .u64 (wd set 3 : Int)) := hb4.cell 4
    go_wp2_with (first
      | (refine wpl_storeSetIn rfl _ _ rfl rfl s _ _ set rfl rfl hs4 ?_; intro w5 hs5 hk5)
      | (refine wpl_loadNd rfl _ rfl s 0 _ _ rfl hs5.nd ?_)
      | (refine wpl_storeNd rfl _ _ rfl rfl z _ _ (.slice none 0 0) _ rfl rfl (isSl_mk _ _ _) (hz4.keep1 hk5 (by omega)) ?_; intro w6 hz6 hk6))
    exact ret_nd rfl rfl rfl hz6 ⟨rfl, (hxw.keep1 hk5 hws).keep1 hk6 hwz⟩
  by_cases k7 : kind = 7
  · subst k7
    have k6 : w4.cell? ⟨b, 6, none⟩ = some (.int .i64 num) := hb4.cell 6
    go_wp2_with (first
      | (refine wpl_storeCell rfl 3 _ _ rfl rfl s 6 (.int .i64 num) _ rfl rfl info_int1 rfl _ _ hs4 rfl ?_; intro w5 hs5 hk5; replace hs5 : Blk w5 s 27 (nodeA ⟨7, noS, num, 0, 0, false⟩ (.slice none 0 0)) := hs5)
      | (refine wpl_loadNd rfl _ rfl s 0 _ _ rfl hs5.nd ?_)
      | (refine wpl_storeNd rfl _ _ rfl rfl z _ _ (.slice none 0 0) _ rfl rfl (isSl_mk _ _ _) (hz4.keep1 hk5 (by omega)) ?_; intro w6 hz6 hk6))
    exact ret_nd rfl rfl rfl hz6 ⟨rfl, (hxw.keep1 hk5 hws).keep1 hk6 hwz⟩
  by_cases k8 : kind = 8
  · subst k8
    have k6 : w4.cell? ⟨b, 7, none⟩ = some (.int .i64 mn) := hb4.cell 7
    go_wp2_with (first
      | (refine wpl_storeCell rfl 3 _ _ rfl rfl s 7 (.int .i64 mn) _ rfl rfl info_int1 rfl _ _ hs4 rfl ?_; intro w5 hs5 hk5; replace hs5 : Blk w5 s 27 (nodeA ⟨8, noS, 0, mn, 0, false⟩ (.slice none 0 0)) := hs5; have j8 : w5.cell? ⟨b, 8, none⟩ = some (.int .i64 mx) := (hb4.keep1 hk5 (by omega)).cell 8)
      | (refine wpl_storeCell rfl 3 _ _ rfl rfl s 8 (.int .i64 mx) _ rfl rfl info_int1 rfl _ _ hs5 rfl ?_; intro w6 hs6 hk6; replace hs6 : Blk w6 s 27 (nodeA ⟨8, noS, 0, mn, mx, false⟩ (.slice none 0 0)) := hs6; have j9 : w6.cell? ⟨b, 9, none⟩ = some (.bool bare) := ((hb4.keep1 hk5 (by omega)).keep1 hk6 (by omega)).cell 9)
      | (refine wpl_storeCell rfl 4 _ _ rfl rfl s 9 (.bool bare) _ rfl rfl info_bool1 rfl _ _ hs6 rfl ?_; intro w7 hs7 hk7; replace hs7 : Blk w7 s 27 (nodeA ⟨8, noS, 0, mn, mx, bare⟩ (.slice none 0 0)) := hs7)
      | (refine wpl_loadNd rfl _ rfl s 0 _ _ rfl hs7.nd ?_)
      | (refine wpl_storeNd rfl _ _ rfl rfl z _ _ (.slice none 0 0) _ rfl rfl (isSl_mk _ _ _) (((hz4.keep1 hk5 (by omega)).keep1 hk6 (by omega)).keep1 hk7 (by omega)) ?_; intro w8 hz8 hk8))
    exact ret_nd rfl rfl rfl hz8 ⟨rfl, (((hxw.keep1 hk5 hws).keep1 hk6 hws).keep1 hk7 hws).keep1 hk8 hwz⟩
  have hu : usedH ⟨kind, set, num, mn, mx, bare⟩ = ⟨kind, noS, 0, 0, 0, false⟩ := by simp [usedH, k2, k7, k8]
  have HU := Lib.hid hu
  clear hu
  go_wp2_with (first
    | (refine wpl_loadNd rfl _ rfl s 0 _ _ rfl hs4.nd ?_)
    | (refine wpl_storeNd rfl _ _ rfl rfl z _ _ (.slice none 0 0) _ rfl rfl (isSl_mk _ _ _) hz4 ?_; intro w6 hz6 hk6))
  exact ret_nd rfl rfl rfl hz6 ⟨by rw [HU.out], hxw.keep1 hk6 hwz⟩

end Go.Proofs.YtgfknlkpdiejgaaDoor

namespace Go.Proofs.YtgfknlkpdiejgaaDoor

def usedB (h : Hd) : Bool := decide (1 ≤ h.kind) && decide (h.kind ≤ 8) && wordsB h.set (usedH h).set && decide (h.num = (usedH h).num) && decide (h.min = (usedH h).min) && decide (h.max = (usedH h).max) && (h.bare == (usedH h).bare)
def swB (h : Hd) (len : Nat) : Bool :=
  if h.kind = 5 ∨ h.kind = 6 then decide (2 ≤ len)
  else if h.kind = 7 then decide (len = 1) && decide (1 ≤ h.num) && decide (h.num ≤ 999)
  else if h.kind = 8 then decide (len = 1) && decide (0 ≤ h.min) && decide (h.min ≤ 255) && decide (-1 ≤ h.max) && decide (h.max ≤ 255) && !(decide (0 ≤ h.max) && decide (h.max < h.min)) && !(h.bare && decide (h.min ≠ 0))
  else decide (len = 0)
theorem words_zero (p : Nat → Bool) : wordsB p noS = zeroS p := by
  unfold wordsB zeroS
  have : ∀ i, wd noS i = 0 := fun i => wd_none i
  simp [this]
theorem used_formed (h : Hd) (len : Nat) : (usedB h && swB h len) = formedB h len := by
  obtain ⟨kind, set, num, mn, mx, bare⟩ := h
  by_cases hr : 1 ≤ kind ∧ kind ≤ 8
  · obtain ⟨h1, h8⟩ := hr
    rcases (show kind = 1 ∨ kind = 2 ∨ kind = 3 ∨ kind = 4 ∨ kind = 5 ∨ kind = 6 ∨ kind = 7 ∨ kind = 8 from by omega) with rfl | rfl | rfl | rfl | rfl | rfl | rfl | rfl
    case inr.inr.inr.inr.inr.inr.inr =>
      have e : formedB ⟨8, set, num, mn, mx, bare⟩ len = (zeroS set && decide (num = 0) && decide (len = 1) && decide (0 ≤ mn) && decide (mn ≤ 255) && !(bare && decide (0 < mn)) && (decide (mx = -1) || decide (mn ≤ mx) && decide (mx ≤ 255))) := rfl
      have e2 : usedB ⟨8, set, num, mn, mx, bare⟩ = (wordsB set noS && decide (num = 0)) := by simp [usedB, usedH]
      have e3 : swB ⟨8, set, num, mn, mx, bare⟩ len = (decide (len = 1) && decide (0 ≤ mn) && decide (mn ≤ 255) && decide (-1 ≤ mx) && decide (mx ≤ 255) && !(decide (0 ≤ mx) && decide (mx < mn)) && !(bare && decide (mn ≠ 0))) := rfl
      rw [e, e2, e3, words_zero, Bool.eq_iff_iff]
      cases zeroS set <;> cases bare <;> simp only [Bool.and_eq_true, Bool.or_eq_true, Bool.not_eq_true', Bool.and_eq_false_iff, decide_eq_true_eq, decide_eq_false_iff_not, Bool.false_and, Bool.true_and, Bool.not_false, Bool.and_true, Bool.false_eq_true] <;> omega
    all_goals
      simp [usedB, usedH, swB, formedB, plainB, words_zero, wordsB_refl]
      try (rw [Bool.eq_iff_iff]; cases zeroS set <;> cases bare <;> simp <;> omega)
  · have hu : usedB ⟨kind, set, num, mn, mx, bare⟩ = false := by
      rw [usedB]
      by_cases h1 : 1 ≤ kind
      · have h8 : ¬ kind ≤ 8 := by omega
        simp [h8]
      · simp [h1]
    rw [hu, Bool.false_and]
    unfold formedB
    simp only
    rw [if_neg (by omega), if_neg (by omega), if_neg (by omega), if_neg (by omega), if_neg (by omega)]

end Go.Proofs.YtgfknlkpdiejgaaDoor
