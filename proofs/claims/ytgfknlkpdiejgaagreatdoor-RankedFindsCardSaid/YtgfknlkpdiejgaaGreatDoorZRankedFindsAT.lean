/- tree.Copy as a contract: the tree as new memory. Condition: the tree lies in memory, its lists are short. tree.copies, Seq, Rep, Bytes as contracts. Condition: the trees lie in memory, their lists are short. tree.Text as a contract: a text's bytes, one node each. Condition: the text is short. The fixed fact of layer 22's statements in plain words: (a*)(ab)*(b*) over abb. No program. -/
import Derived.Test.YtgfknlkpdiejgaaGreatDoorZRankedFindsAC
import Derived.Test.YtgfknlkpdiejgaaGreatDoorZRankedFindsAE
import Derived.Test.YtgfknlkpdiejgaaGreatDoorSetC
import Derived.Test.YtgfknlkpdiejgaaGreatDoorZRankedFindsAR
import Derived.Test.YtgfknlkpdiejgaaGreatDoorZRankedFindsAM
import Derived.Test.YtgfknlkpdiejgaaGreatDoorZRankedFindsAG
namespace Go.Proofs.YtgfknlkpdiejgaaGreatDoor
open Go Go.RowKit

theorem kids_full {W : World} {B : Nat} {e : TypeId} {v : Value} {l : List Kid} {m : Nat} (h : LstZ W B e v l (List.replicate m zrow)) (hm : m = 0) : LstFp W B e v l := by subst hm; exact h
theorem set_first (l : List Kid) (m : Nat) (r : List Value) : (kidsRow l ++ List.replicate (m + 1) zrow).set l.length r = kidsRow l ++ r :: List.replicate m zrow := by
  rw [List.replicate_succ, List.set_append_right _ _ (by simp [kidsRow])]
  simp [kidsRow]

set_option maxRecDepth 100000 in
set_option maxHeartbeats 4000000 in
theorem copy_any : ∀ (n : Nd) (sv : Value) (w : World), NdOk w n sv → smallN n →
    Calls Tryz.prog 37 #[nodeV n.h sv] w (RetNd w n) := by
  refine Nd.ind fun hd subs ih sv w hn hsm => ?_
  obtain ⟨A, c, rfl⟩ := hn.shape
  obtain ⟨hlen, hsm⟩ := hsm
  have IH := Lib.hid (fun n hm sv w hn => ih n hm sv w hn (smallL_mem hsm n hm))
  have HN := Lib.hid hn
  clear ih hsm hn
  simp only [Nd.h, Nd.subs] at *
  go_enter Tryz.func37, Tryz.ntmps37
  go_upto_region 1 with (first
    | (refine wpl_boxNd rfl _ rfl hd _ rfl ?_; intro b w1 hb hx1 eb sb)
    | (refine wpl_allocNd rfl rfl ?_; intro z w2 hz hx2 ez sz))
  have hx12 := hx1.trans hx2
  have hb2 := hb.ext hx2
  have c5 : w2.cell? ⟨b, 5, none⟩ = some (.slice A subs.length c) := hb2.cell 5
  have hbz : b < z := by omega
  have hwz : w.heap.size ≤ z := by omega
  have hwb : w.heap.size ≤ b := eb
  clear hb hx1 hx2 eb sb
  by_cases h0 : subs.length = 0
  · have hs0 : subs = [] := List.eq_nil_of_length_eq_zero h0
    subst hs0
    simp only [List.length_nil] at *
    go_wp2_with (first
      | (refine wpl_storeSubs rfl _ _ rfl rfl b hd (.slice none 0 0) _ rfl rfl (isSl_mk _ _ _) hb2 ?_; intro w3 hb3 hk3)
      | (refine wpl_loadNd rfl _ rfl b 0 hd _ rfl hb3.nd ?_)
      | (refine wpl_storeNd rfl _ _ rfl rfl z hd _ (.slice none 0 0) _ rfl rfl (isSl_mk _ _ _) (hz.keep1 hk3 (by omega)) ?_; intro w4 hz4 hk4))
    exact ret_nd rfl rfl rfl hz4 ⟨_, rfl, NdNew.nil _ _ _ _ _, (hx12.keep1 hk3 (by omega)).keep1 hk4 hwz⟩
  · go_upto_region 5 with (refine wpList_makeR rfl _ _ _ rfl w2.heap.size 27 zrow 10 96 Tryz.underlying25 info_ndZ rfl (by decide) subs.length rfl rfl (by omega) (by omega) (Nat.le_refl _) ?_; intro g w3 hO hx3 hg hg')
    have hL0 : LstZ w3 w2.heap.size 27 (.slice (some ⟨g, 0, none⟩) subs.length subs.length) [] (List.replicate subs.length zrow) := ⟨hO, (fun _ h => by cases h), List.nodup_nil, (fun _ h => by cases h)⟩
    have c5' := hx3.cell c5
    clear hO
    go_wp2
    clear c5'
    go_loopw [19] (fun i wr => ∃ (k : Nat) (l : List Kid), k ≤ subs.length ∧ i = .int .i64 k ∧ l.map (·.1) = subs.take k ∧ LstZ wr w2.heap.size 27 (.slice (some ⟨g, 0, none⟩) subs.length subs.length) l (List.replicate (subs.length - k) zrow) ∧ Ext w2 wr) (fun i _ => subs.length - (intOf i).toNat)
    case atStart => exact ⟨0, [], Nat.zero_le _, rfl, rfl, hL0, hx3⟩
    case round =>
      clear hL0 hx3
      obtain ⟨k, l, hk, rfl, hl, hL, hx⟩ := hrel
      have HL := Lib.hid hl
      clear hl
      by_cases hlt : k < subs.length
      · obtain ⟨g0, o0, sv, rfl, hat, hok⟩ := HN.out.get k hlt
        have hxw := hx12.trans hx
        replace hat := hat.ext hxw
        have IHk := Lib.hid (fun w' (hw' : Ext wr w') => IH.out subs[k] (List.getElem_mem hlt) sv w' (NdOk.ext (hxw.trans hw') _ _ hok))
        have HM := Lib.hid (show (l.map (·.1)) ++ [subs[k]] = subs.take (k + 1) by rw [HL.out, take_snoc subs k hlt])
        have hll : l.length = k := by have := congrArg List.length HL.out; simp at this; omega
        have HK := Lib.hid hll
        clear IH HN HL hll
        generalize subs[k] = nk at *
        have d1 : (k : Int) < (subs.length : Int) := by omega
        go_wp2_with (first
          | (refine wpl_loadNd rfl _ rfl g0 (o0 + k * 10) nk.h sv rfl hat ?_)
          | (refine wpl_allocNd rfl rfl ?_; intro s w4 hs hx4 es ss)
          | (refine wpl_storeNd rfl _ _ rfl rfl s nk.h _ sv _ rfl rfl hok.sl hs ?_; intro w5 hs5 hk5; have hx5 := hx4.keep1 hk5 es)
          | (refine wpl_loadNd rfl _ rfl s 0 nk.h sv rfl hs5.nd ?_)
          | (go_at_call 37; refine (IHk.out _ hx5).mono ?_; rintro e w6 ⟨sv6, rfl, hn6, hx6⟩)
          | (refine wpl_setNd rfl _ _ rfl rfl w2.heap.size g _ _ _ k nk.h sv6 rfl rfl hn6.ok.sl (hL.ext (hx5.trans hx6)).own (by simp [kidsRow, HK.out]; omega) ?_; intro w7 hO7 hg7))
        have hsz3 := hx.size
        have hsz5 := hx5.size
        obtain ⟨f, hL7⟩ := LstZ.snoc (zs' := List.replicate (subs.length - (k + 1)) zrow) hL (hx5.trans hx6) (by omega) (hn6.mono hsz5) (by
          rw [show subs.length - k = (subs.length - (k + 1)) + 1 by omega] at hO7
          have := set_first l (subs.length - (k + 1)) (nodeC nk.h sv6)
          rw [HK.out] at this
          rw [this] at hO7
          exact hO7) hg7 (.inl rfl)
        have hx7 : Ext w2 w7 := (hx.trans (hx5.trans hx6)).grown hg7 (fun i hi => by injection hi with hi; omega)
        clear hL hx hat hs hx4 es ss hs5 hk5 hx5 hn6 hx6 hO7 hg7 hok c5
        go_roundw
        case rel => exact ⟨k + 1, l ++ [(nk, sv6, f)], by omega, by go_num, by simpa using HM.out, hL7, hx7⟩
        case measure => simp [intOf]; omega
      · have hkl : subs.take k = subs := List.take_of_length_le (by omega)
        rw [hkl] at HL
        have hL2 := kids_full hL (by omega)
        have hb3 := hb2.ext hx
        have hz3 := hz.ext hx
        have c5' := hx.cell c5
        have HN2 := Lib.hid (hL2.node hd)
        rw [HL.out] at HN2
        have hd1 : ¬ (k : Int) < (subs.length : Int) := by omega
        clear hkl hL IH HN HL c5 hL2
        go_wp2_with (first
          | (refine wpl_storeSubs rfl _ _ rfl rfl b hd _ _ rfl rfl (isSl_mk _ _ _) hb3 ?_; intro w4 hb4 hk4)
          | (refine wpl_loadNd rfl _ rfl b 0 hd _ rfl hb4.nd ?_)
          | (refine wpl_storeNd rfl _ _ rfl rfl z hd _ _ _ rfl rfl (isSl_mk _ _ _) (hz3.keep1 hk4 (by omega)) ?_; intro w5 hz5 hk5))
        have hsz := hx.size
        exact ret_nd rfl rfl rfl hz5 ⟨_, rfl, ((HN2.out.keep1 hk4 (by omega)).keep1 hk5 (by omega)).mono (by omega), ((hx12.trans hx).keep1 hk4 (by omega)).keep1 hk5 (by omega)⟩

end Go.Proofs.YtgfknlkpdiejgaaGreatDoor

namespace Go.Proofs.YtgfknlkpdiejgaaGreatDoor
open Go Go.RowKit

/-- What a call that makes a list of trees answers. -/
def RetLs (w : World) (ns : List Nd) (r : Ending) (w' : World) : Prop := ∃ v, r = .returned v ∧ NdNew w.heap.size w' (.mk (hdV 0) ns) v ∧ Ext w w'

set_option maxRecDepth 100000 in
set_option maxHeartbeats 4000000 in
theorem copies_any (ns : List Nd) (lv : Value) (w : World) (hn : NdOk w (.mk (hdV 0) ns) lv) (hsm : smallN (.mk (hdV 0) ns)) :
    Calls Tryz.prog 38 #[lv] w (RetLs w ns) := by
  obtain ⟨A, c, rfl⟩ := hn.shape
  obtain ⟨hlen, hsm⟩ := hsm
  have HC := Lib.hid (fun n (hm : n ∈ ns) sv w hn => copy_any n sv w hn (smallL_mem hsm n hm))
  have HN := Lib.hid hn
  clear hsm hn
  simp only [Nd.subs] at *
  go_enter Tryz.func38, Tryz.ntmps38
  go_upto_region 2 with (refine wpList_makeR0 rfl _ _ _ rfl w.heap.size 27 _ 10 96 Tryz.underlying25 info_ndZ ns.length rfl rfl (by omega) (by omega) (Nat.le_refl _) ?_; intro g w1 hO hx1 hg hg')
  have hL0 : LstFp w1 w.heap.size 27 (.slice (some ⟨g, 0, none⟩) 0 ns.length) [] := ⟨hO, (fun _ h => by cases h), List.nodup_nil, (fun _ h => by cases h)⟩
  clear hO
  go_wp2
  go_loopw [3, 11] (fun v i wr => ∃ (k : Nat) (l : List Kid), k ≤ ns.length ∧ i = .int .i64 k ∧ l.map (·.1) = ns.take k ∧ LstFp wr w.heap.size 27 v l ∧ Ext w wr) (fun _ i _ => ns.length - (intOf i).toNat)
  case atStart => exact ⟨0, [], Nat.zero_le _, rfl, rfl, hL0, hx1⟩
  case round =>
    clear hL0 hx1
    obtain ⟨k, l, hk, rfl, hl, hL, hx⟩ := hrel
    have HL := Lib.hid hl
    clear hl
    by_cases hlt : k < ns.length
    · obtain ⟨g0, o0, sv, rfl, hat, hok⟩ := HN.out.get k hlt
      replace hat := hat.ext hx
      have IHk := Lib.hid (fun w' (hw' : Ext wr w') => HC.out ns[k] (List.getElem_mem hlt) sv w' (NdOk.ext (hx.trans hw') _ _ hok))
      have HM := Lib.hid (show (l.map (·.1)) ++ [ns[k]] = ns.take (k + 1) by rw [HL.out, take_snoc ns k hlt])
      have hll : l.length = k := by have := congrArg List.length HL.out; simp at this; omega
      have hll2 : l.length ≤ 1000000000 := by omega
      clear HC HN HL hll
      generalize ns[k] = nk at *
      have d1 : (k : Int) < (ns.length : Int) := by omega
      go_wp2_with (first
        | (refine wpl_loadNd rfl _ rfl g0 (o0 + k * 10) nk.h sv rfl hat ?_)
        | (refine wpl_allocNd rfl rfl ?_; intro s w4 hs hx4 es ss)
        | (refine wpl_storeNd rfl _ _ rfl rfl s nk.h _ sv _ rfl rfl hok.sl hs ?_; intro w5 hs5 hk5; have hx5 := hx4.keep1 hk5 es)
        | (refine wpl_loadNd rfl _ rfl s 0 nk.h sv rfl hs5.nd ?_)
        | (go_at_call 37; refine (IHk.out _ hx5).mono ?_; rintro e w6 ⟨sv6, rfl, hn6, hx6⟩)
        | (refine wpl_oneNd rfl _ rfl nk.h sv6 rfl ?_; intro g7 w7 hb7 hx7 e7 s7)
        | (refine wpl_appFp rfl _ _ rfl w.heap.size u3 l nk sv6 g7 1 wr rfl rfl hL ((hx5.trans hx6).trans hx7) hx.size ((hn6.ext hx7).mono hx5.size) hb7 hll2 ?_; intro v8 w8 hL8 hx78 hg8))
      have hx8 : Ext w w8 := ext_grown_lst (hx.trans hx78) hL (Nat.le_refl _) hg8
      obtain ⟨f, hL8⟩ := hL8
      clear hL hx hat hs hx4 es ss hs5 hk5 hx5 hn6 hx6 hb7 hx7 hg8 hx78 hok e7 s7
      go_roundw
      case rel => exact ⟨k + 1, l ++ [(nk, sv6, f)], by omega, by go_num, by simpa using HM.out, hL8, hx8⟩
      case measure => simp [intOf]; omega
    · have hkl : ns.take k = ns := List.take_of_length_le (by omega)
      rw [hkl] at HL
      have hd1 : ¬ (k : Int) < (ns.length : Int) := by omega
      have HN2 := Lib.hid (hL.node (hdV 0))
      rw [HL.out] at HN2
      clear hkl HL HN HC
      obtain ⟨A', c', rfl, _⟩ := hL.len
      go_wp2
      go_ret
      exact ⟨_, rfl, HN2.out, hx⟩

set_option maxRecDepth 100000 in
set_option maxHeartbeats 4000000 in
theorem seq_any (ns : List Nd) (lv : Value) (w : World) (hn : NdOk w (.mk (hdV 0) ns) lv) (hsm : smallN (.mk (hdV 0) ns)) :
    Calls Tryz.prog 18 #[lv] w (RetNd w (seqN ns)) := by
  have HCs := Lib.hid (fun W (hW : Ext w W) => copies_any ns lv W (NdOk.ext hW _ _ hn) hsm)
  obtain ⟨A, c, rfl⟩ := hn.shape
  obtain ⟨hlen, hsm⟩ := hsm
  have HC := Lib.hid (fun n (hm : n ∈ ns) sv w hn => copy_any n sv w hn (smallL_mem hsm n hm))
  have HN := Lib.hid hn
  clear hsm hn
  simp only [Nd.subs] at *
  go_enter Tryz.func18, Tryz.ntmps18
  go_upto_region 1 with (refine wpl_allocNd rfl rfl ?_; intro z w2 hz hx2 ez sz)
  match ns, HCs, HC, HN, hlen with
  | [], HCs, HC, HN, hlen =>
    simp only [List.length_nil] at *
    clear HCs HC HN
    go_wp2_with (refine wpl_storeNd rfl _ _ rfl rfl z (hdV 1) _ (.slice none 0 0) _ rfl (node_lit _ _ _ _ _ _) (isSl_mk _ _ _) hz ?_; intro w5 hz5 hk5)
    exact ret_nd rfl rfl rfl hz5 ⟨_, rfl, NdNew.nil _ _ _ _ _, hx2.keep1 hk5 ez⟩
  | [x], HCs, HC, HN, hlen =>
    obtain ⟨g0, o0, sv, rfl, hat, hok⟩ := HN.out.get 0 (by simp)
    have H1 := Lib.hid (HC.out x (by simp) sv w2 (NdOk.ext hx2 _ _ hok))
    simp only [List.getElem_cons_zero, Nat.zero_mul, Nat.add_zero] at hat hok
    replace hat := hat.ext hx2
    simp only [List.length_cons, List.length_nil] at *
    clear HCs HC HN
    go_wp2_with (first
      | (refine wpl_loadNd rfl _ rfl g0 o0 x.h sv rfl hat ?_)
      | (go_at_call 37; refine H1.out.mono ?_; rintro e w6 ⟨sv6, rfl, hn6, hx6⟩)
      | (refine wpl_storeNd rfl _ _ rfl rfl z x.h _ sv6 _ rfl rfl hn6.ok.sl (hz.ext hx6) ?_; intro w5 hz5 hk5))
    have h2 := hx2.size
    exact ret_nd rfl rfl rfl hz5 ⟨_, rfl, (hn6.keep1 hk5 sz).mono h2, (hx2.trans hx6).keep1 hk5 ez⟩
  | x :: y :: r, HCs, HC, HN, hlen =>
    have d0 : 2 ≤ (x :: y :: r).length := by simp
    have H1 := Lib.hid (HCs.out w2 hx2)
    clear HCs HC HN
    have hseq : seqN (x :: y :: r) = .mk (hdV 5) (x :: y :: r) := rfl
    have HQ := Lib.hid hseq
    clear hseq
    generalize hL : (x :: y :: r).length = L at *
    clear hL
    generalize x :: y :: r = ns at *
    have d1 : ((L : Int) == 0) = false := by rw [beq_eq_false_iff_ne]; omega
    have d2 : ((L : Int) == 1) = false := by rw [beq_eq_false_iff_ne]; omega
    have d3 : ¬ L = 0 := by omega
    have d4 : ¬ L = 1 := by omega
    go_wp2_with (first
      | (go_at_call 38; refine H1.out.mono ?_; rintro e w6 ⟨sv6, rfl, hn6, hx6⟩; obtain ⟨A6, n6, c6, rfl⟩ := hn6.ok.sl)
      | (refine wpl_storeNd rfl _ _ rfl rfl z (hdV 5) _ _ _ rfl (node_lit _ _ _ _ _ _) (isSl_mk _ _ _) (hz.ext hx6) ?_; intro w5 hz5 hk5))
    have h2 := hx2.size
    exact ret_nd rfl rfl rfl hz5 ⟨.slice A6 n6 c6, by rw [HQ.out]; rfl, by rw [HQ.out]; exact ((hn6.head (h' := hdV 5)).keep1 hk5 sz).mono h2, (hx2.trans hx6).keep1 hk5 ez⟩

set_option maxRecDepth 100000 in
set_option maxHeartbeats 4000000 in
theorem rep_any (n : Nd) (sv : Value) (mn mx : Int) (w : World) (hn : NdOk w n sv) (hsm : smallN n) :
    Calls Tryz.prog 20 #[nodeV n.h sv, .int .i64 mn, .int .i64 mx] w (RetNd w (.mk ⟨8, noS, 0, mn, mx, false⟩ [n])) := by
  have HC := Lib.hid (fun W (hW : Ext w W) => copy_any n sv W (NdOk.ext hW _ _ hn) hsm)
  have hsl := hn.sl
  clear hn hsm
  go_enter Tryz.func20, Tryz.ntmps20
  go_wp2_with (first
    | (refine wpl_boxNd rfl _ rfl n.h _ rfl ?_; intro b w1 hb hx1 eb sb)
    | (refine wpl_allocNd rfl rfl ?_; intro z w2 hz hx2 ez sz)
    | (refine wpl_loadNd rfl _ rfl b 0 n.h sv rfl (hb.ext hx2).nd ?_)
    | (go_at_call 37; refine (HC.out _ (hx1.trans hx2)).mono ?_; rintro e w6 ⟨sv6, rfl, hn6, hx6⟩)
    | (refine wpl_oneNd rfl _ rfl n.h sv6 rfl ?_; intro g7 w7 hb7 hx7 e7 s7)
    | (refine wpl_storeNd rfl _ _ rfl rfl z ⟨8, noS, 0, mn, mx, false⟩ _ (.slice (some ⟨g7, 0, none⟩) 1 1) _ rfl (node_lit _ _ _ _ _ _) (isSl_mk _ _ _) ((hz.ext hx6).ext hx7) ?_; intro w8 hz8 hk8))
  have h1 := hx1.size
  have h2 := hx2.size
  have h6 := hx6.size
  exact ret_nd rfl rfl rfl hz8 ⟨_, rfl, ((NdNew.one hn6 hx7 hb7 e7 h6 _ 1).keep1 hk8 sz).mono (by omega), ((hx1.trans hx2).trans (hx6.trans hx7)).keep1 hk8 (by omega)⟩

end Go.Proofs.YtgfknlkpdiejgaaGreatDoor

namespace Go.Proofs.YtgfknlkpdiejgaaGreatDoor
open Go Go.RowKit

def leafN (b : Nat) : Nd := .mk ⟨2, fun x => x == b, 0, 0, 0, false⟩ []
def textN (bs : List UInt8) : Nd := seqN (bs.map fun b => leafN b.toNat)
theorem zero_set : (Tryz.prog.info? 24).map (fun i => i.zero) = some (some (.agg (setC fun _ => false))) := by kernel_rfl
theorem wpl_allocSet {ops : Array Oper} {rest : List Oper} {o : Oper} {a : Act} {w : World} {Q : Exit → Act → World → Prop} (hgd : o.guard = none) (ho : o.op = .alloc 24)
    (hK : ∀ g w1, Blk w1 g 24 (setC fun _ => false) → Ext w w1 → w.heap.size ≤ g → g < w1.heap.size → wpList Tryz.prog ops Q rest (a.put o.dst (.pointer (some ⟨g, 0, none⟩))) w1) : wpList Tryz.prog ops Q (o :: rest) a w :=
  wpList_plain hgd fun _ hKK => by
    have hr : (execOp a.eval o).run Tryz.prog w = .ok (.value (.pointer (some ⟨w.heap.size, 0, none⟩))) (w.alloc (.cells (setC fun _ => false) 24)) := by
      unfold execOp
      rw [ho]
      simp [Instr.alloc, newVar, newRow, Value.cells]
      rfl
    unfold Oper.wp
    rw [hr]
    exact hKK _ _ (hK _ _ (Blk.new w _ _) ((Ext.refl w).alloc _) (Nat.le_refl _) (by simp))

set_option maxRecDepth 100000 in
set_option maxHeartbeats 4000000 in
theorem bytes_any (p : Nat → Bool) (w : World) :
    Calls Tryz.prog 36 #[setV p] w (RetNd w (.mk ⟨2, p, 0, 0, 0, false⟩ [])) := by
  unfold setV u64v
  go_enter Tryz.func36, Tryz.ntmps36
  go_upto_region 1 with (refine wpl_allocNd rfl rfl ?_; intro z w2 hz hx2 ez sz)
  have hx := ((Ext.refl w).alloc (.cells #[.int .u64 (wd p 0 : Int), .int .u64 (wd p 1 : Int), .int .u64 (wd p 2 : Int), .int .u64 (wd p 3 : Int)] 24)).trans hx2
  obtain ⟨b0, b1, b2, b3⟩ := box4 hx2
  have hs : w.heap.size ≤ z := by simp at ez; omega
  clear ez
  go_wp2_with (refine wpl_storeNd rfl _ _ rfl rfl z ⟨2, p, 0, 0, 0, false⟩ _ (.slice none 0 0) _ rfl rfl (isSl_mk _ _ _) hz ?_; intro w3 hz3 hk3)
  exact ret_nd rfl rfl rfl hz3 ⟨_, rfl, NdNew.nil _ _ _ _ _, hx.keep1 hk3 hs⟩

theorem one_word (b : Nat) (h : b < 256) : (setC fun _ => false).setIfInBounds (b / 64) (.int .u64 (IntKind.u64.wrap (2 ^ (b % 64)))) = setC (fun x => x == b) := by
  have h1 := setC_ins (fun _ => false) b h
  have e : insB (fun _ => false) b = fun x => x == b := by funext x; simp [insB]
  have h2 : (2 : Nat) ^ (b % 64) < 2 ^ 64 := Nat.pow_lt_pow_right (a := 2) (m := b % 64) (n := 64) (by decide) (by omega)
  have e0 : ((2 : Int) ^ (b % 64)) = ((2 ^ (b % 64) : Nat) : Int) := by rw [Int.natCast_pow]; rfl
  rw [e, wd_none, Nat.zero_or] at h1
  rw [← h1, u64v, e0, IntKind.wrap_u64]
  generalize 2 ^ (b % 64) = y at *
  congr 2
  omega

set_option maxRecDepth 100000 in
set_option maxHeartbeats 4000000 in
theorem text_any (s : ByteArray) (w : World) (hs : s.size ≤ 1000000) :
    Calls Tryz.prog 17 #[.string s] w (RetNd w (textN s.data.toList)) := by
  go_enter Tryz.func17, Tryz.ntmps17
  go_upto_region 1 with (refine wpl_allocNd rfl rfl ?_; intro z w2 hz hx2 ez sz)
  have hL0 : LstFp w2 w2.heap.size 27 (.slice none 0 0) [] := LstFp.nil _ _ _
  have hx22 : Ext w2 w2 := Ext.refl w2
  have h2 := hx2.size
  go_wp2
  go_loopw [3, 4] (fun v i wr => ∃ (k : Nat) (l : List Kid), k ≤ s.size ∧ i = .int .i64 k ∧ l.map (·.1) = (s.data.toList.take k).map (fun b => leafN b.toNat) ∧ LstFp wr w2.heap.size 27 v l ∧ Ext w2 wr) (fun _ i _ => s.size - (intOf i).toNat)
  case atStart => exact ⟨0, [], Nat.zero_le _, rfl, rfl, hL0, hx22⟩
  case round =>
    clear hL0 hx22
    obtain ⟨k, l, hk, rfl, hl, hL, hx⟩ := hrel
    have HL := Lib.hid hl
    clear hl
    by_cases hlt : k < s.size
    · have hll : l.length = k := by have := congrArg List.length HL.out; simp at this; omega
      have hll2 : l.length ≤ 1000000000 := by omega
      have HM := Lib.hid (show (l.map (·.1)) ++ [leafN s[k].toNat] = (s.data.toList.take (k + 1)).map (fun b => leafN b.toNat) by rw [HL.out, List.take_succ_eq_append_getElem (by simpa using hlt), List.map_append]; rfl)
      have hb := s[k].toNat_lt
      clear HL hll
      go_upto_region 6 with (refine wpl_allocSet rfl rfl ?_; intro g w4 hg hx4 e4 s4)
      simp only [Act.put, List.setIfInBounds_toArray, List.set_cons_succ, List.set_cons_zero]
      go_cut [] (fun wx => Blk wx g 24 (setC fun x => x == s[k].toNat) ∧ Ext wr wx)
      case first =>
        have hi4 : s[k].toNat / 64 < 4 := by omega
        have h3 := hg.frozen (s[k].toNat / 64)
        have h4 := hg.cell (s[k].toNat / 64)
        rw [setC_get _ _ hi4] at h4
        unfold u64v at h4
        go_region
        go_wp2
        go_meet
        case rel =>
          refine ⟨?_, (hx4.setCell e4 _).drew⟩
          have := hg.set (s[k].toNat / 64) (.int .u64 (IntKind.u64.wrap (2 ^ (s[k].toNat % 64))))
          rw [one_word _ (by omega)] at this
          exact this.drew
      obtain ⟨hs5, hx5⟩ := hcut
      generalize wc = w5 at *
      go_wp2_with (first
        | (refine wpl_loadSet rfl _ rfl g _ (fun x => x == s[k].toNat) rfl hs5 ?_)
        | (go_at_call 36; refine (bytes_any (fun x => x == s[k].toNat) _).mono ?_; rintro e w6 ⟨sv6, rfl, hn6, hx6⟩)
        | (refine wpl_oneNd rfl _ rfl (leafN s[k].toNat).h sv6 rfl ?_; intro g7 w7 hb7 hx7 e7 s7)
        | (refine wpl_appFp rfl _ _ rfl w2.heap.size u3 l (leafN s[k].toNat) sv6 g7 1 wr rfl rfl hL ((hx5.trans hx6).trans hx7) hx.size ((hn6.ext hx7).mono hx5.size) hb7 hll2 ?_; intro v8 w8 hL8 hx78 hg8))
      have hx8 : Ext w2 w8 := ext_grown_lst (hx.trans hx78) hL (Nat.le_refl _) hg8
      obtain ⟨f, hL8⟩ := hL8
      clear hL hx hg hx4 e4 s4 hs5 hx5 hn6 hx6 hb7 hx7 hg8 hx78 e7 s7
      go_roundw
      case rel => exact ⟨k + 1, l ++ [(leafN s[k].toNat, sv6, f)], by omega, by go_num, by simpa using HM.out, hL8, hx8⟩
      case measure => simp [intOf]; omega
    · have hd1 : ¬ (k : Int) < (s.size : Int) := by omega
      have HN2 := Lib.hid (hL.node (hdV 0))
      have hts : s.data.toList.take k = s.data.toList := List.take_of_length_le (by simp; omega)
      rw [hts] at HL
      have HSQ := Lib.hid (fun W (hW : Ext wr W) => seq_any (l.map (·.1)) u3 W ((HN2.out.ext hW).ok) ⟨by rw [HL.out]; simp; omega, smallL_of fun n hn => by
        rw [HL.out] at hn
        obtain ⟨b, _, rfl⟩ := List.mem_map.1 hn
        exact ⟨by simp, trivial⟩⟩)
      have HE := Lib.hid (show seqN (l.map (·.1)) = textN s.data.toList by rw [HL.out]; rfl)
      have hwx := hx2.trans hx
      have hsz := hx.size
      clear hts HL HN2 hL
      generalize seqN (l.map (·.1)) = res at *
      go_wp2_with (first
        | (go_at_call 18; refine (HSQ.out _ (Ext.refl _)).mono ?_; rintro e w6 ⟨sv6, rfl, hn6, hx6⟩)
        | (refine wpl_storeNd rfl _ _ rfl rfl z res.h _ sv6 _ rfl rfl hn6.ok.sl (hz.ext (hx.trans hx6)) ?_; intro w7 hz7 hk7))
      exact ret_nd rfl rfl rfl hz7 ⟨sv6, by rw [← HE.out], by rw [← HE.out]; exact (hn6.keep1 hk7 (by omega)).mono (by omega), (hwx.trans hx6).keep1 hk7 (by omega)⟩

end Go.Proofs.YtgfknlkpdiejgaaGreatDoor

namespace Go.Proofs.YtgfknlkpdiejgaaGreatDoor
open Go Go.RowKit

def lvS : ByteArray := ⟨#[97, 98, 98]⟩
def stN (n : Nd) : Nd := .mk ⟨8, noS, 0, 0, -1, false⟩ [n]
def gpN (k : Int) (n : Nd) : Nd := .mk ⟨7, noS, k, 0, 0, false⟩ [n]
def lvA : Nd := gpN 1 (stN (leafN 97))
def lvG : Nd := gpN 2 (textN [97, 98])
def lvB : Nd := gpN 3 (stN (leafN 98))
def lvT : Nd := .mk (hdV 5) [lvA, stN lvG, lvB]
theorem lv_seq : seqN [lvA, stN lvG, lvB] = lvT := rfl
theorem lv_text : textN [97, 98] = .mk (hdV 5) [leafN 97, leafN 98] := rfl
theorem lv_leaf (b : Nat) : formB (leafN b) = true := by simp [leafN, formB, formL, formedB]
theorem lv_form : formB lvT = true := by
  simp [lvT, lvA, lvG, lvB, gpN, stN, lv_text, hdV, formB, formL, lv_leaf, formedB, zeroS_no, plainB]
theorem lv_few : 0 ≤ leftN lvT 100 := by
  simp [lvT, lvA, lvG, lvB, gpN, stN, lv_text, leafN, leftN, leftL]
theorem lv_small (n : Nd) (h : 0 ≤ leftN n 100) : smallN n := small_left n 100 (by omega) h
theorem lv_depth : depthN lvT ≤ 200 := by
  simp [lvT, lvA, lvG, lvB, gpN, stN, lv_text, leafN, hdV, depthN, depthA, deepB]
  decide
theorem lv_plain : plainN lvT = true := by simp [lvT, lvA, lvG, lvB, gpN, stN, lv_text, leafN, hdV, plainN, plainL, onceB]
theorem lv_chk : chkN lvT = 0 := by
  have h := size_nodes lvT lv_form
  rw [exp_plain _ lv_form lv_plain] at h
  have hn : nodesN lvT = 12 := by simp [lvT, lvA, lvG, lvB, gpN, stN, lv_text, leafN, nodesN, nodesL]
  rw [hn] at h
  have hd := lv_depth
  unfold chkN
  rw [lv_form, h, if_neg (by decide), if_neg (by omega)]
  decide

section
variable {m : List UInt8}
theorem lv_a (x y : Int) : tkN (lfM lvS m) (leafN 97) x y ↔ x = 0 ∧ y = 1 := by
  rw [leafN, tk_byte rfl]
  have e : ((lvS.size : Nat) : Int) = 3 := rfl
  rw [e]
  constructor
  · rintro ⟨h1, h2, h3, h4⟩
    have h5 : x = 0 ∨ x = 1 ∨ x = 2 := by omega
    rcases h5 with rfl | rfl | rfl
    · exact ⟨rfl, h3⟩
    · exact absurd h4 (by decide)
    · exact absurd h4 (by decide)
  · rintro ⟨rfl, rfl⟩
    exact ⟨by omega, by omega, by omega, by decide⟩
theorem lv_b (x y : Int) : tkN (lfM lvS m) (leafN 98) x y ↔ (x = 1 ∧ y = 2) ∨ (x = 2 ∧ y = 3) := by
  rw [leafN, tk_byte rfl]
  have e : ((lvS.size : Nat) : Int) = 3 := rfl
  rw [e]
  constructor
  · rintro ⟨h1, h2, h3, h4⟩
    have h5 : x = 0 ∨ x = 1 ∨ x = 2 := by omega
    rcases h5 with rfl | rfl | rfl
    · exact absurd h4 (by decide)
    · exact .inl ⟨rfl, h3⟩
    · exact .inr ⟨rfl, h3⟩
  · rintro (⟨rfl, rfl⟩ | ⟨rfl, rfl⟩)
    · exact ⟨by omega, by omega, by omega, by decide⟩
    · exact ⟨by omega, by omega, by omega, by decide⟩
theorem lv_ab (x y : Int) : tkN (lfM lvS m) (textN [97, 98]) x y ↔ x = 0 ∧ y = 2 := by
  rw [lv_text, tk_seq _ _ rfl, tkS, ]
  constructor
  · rintro ⟨c, h1, h2⟩
    rw [tkS_one] at h2
    rw [lv_a] at h1
    rw [lv_b] at h2
    omega
  · rintro ⟨rfl, rfl⟩
    exact ⟨1, (lv_a 0 1).2 ⟨rfl, rfl⟩, (tkS_one _ _ _ _).2 ((lv_b 1 2).2 (.inl ⟨rfl, rfl⟩))⟩
theorem lv_gp (k : Int) (n : Nd) (x y : Int) : tkN (lfM lvS m) (gpN k n) x y ↔ tkN (lfM lvS m) n x y := tk_group _ n rfl x y
theorem lv_st (n : Nd) (x y : Int) : tkN (lfM lvS m) (stN n) x y ↔ ∃ k : Nat, pw (tkN (lfM lvS m) n) k x y := by
  rw [stN, tk_rep _ n rfl]
  unfold rpR
  constructor
  · rintro ⟨k, _, _, h⟩; exact ⟨k, h⟩
  · rintro ⟨k, h⟩; exact ⟨k, by simp, .inl (by simp), h⟩
theorem lv_sa (x y : Int) : tkN (lfM lvS m) (stN (leafN 97)) x y ↔ x = y ∨ (x = 0 ∧ y = 1) := by
  rw [lv_st]
  constructor
  · rintro ⟨k, h⟩
    match k, h with
    | 0, h => exact .inl h
    | 1, ⟨c, h1, h2⟩ => exact .inr (by rw [lv_a] at h1; have h3 : c = y := h2; omega)
    | k + 2, ⟨c, h1, d, h2, _⟩ => rw [lv_a] at h1 h2; omega
  · rintro (rfl | ⟨rfl, rfl⟩)
    · exact ⟨0, rfl⟩
    · exact ⟨1, 1, (lv_a 0 1).2 ⟨rfl, rfl⟩, rfl⟩
theorem lv_sg (x y : Int) : tkN (lfM lvS m) (stN lvG) x y ↔ x = y ∨ (x = 0 ∧ y = 2) := by
  rw [lv_st]
  have hg : ∀ x y, tkN (lfM lvS m) lvG x y ↔ x = 0 ∧ y = 2 := fun x y => by rw [lvG, lv_gp, lv_ab]
  constructor
  · rintro ⟨k, h⟩
    match k, h with
    | 0, h => exact .inl h
    | 1, ⟨c, h1, h2⟩ => exact .inr (by rw [hg] at h1; have h3 : c = y := h2; omega)
    | k + 2, ⟨c, h1, d, h2, _⟩ => rw [hg] at h1 h2; omega
  · rintro (rfl | ⟨rfl, rfl⟩)
    · exact ⟨0, rfl⟩
    · exact ⟨1, 2, (hg 0 2).2 ⟨rfl, rfl⟩, rfl⟩
theorem lv_sb (x y : Int) : tkN (lfM lvS m) (stN (leafN 98)) x y ↔ x = y ∨ (1 ≤ x ∧ x < y ∧ y ≤ 3) := by
  rw [lv_st]
  constructor
  · rintro ⟨k, h⟩
    match k, h with
    | 0, h => exact .inl h
    | 1, ⟨c, h1, h2⟩ => exact .inr (by rw [lv_b] at h1; have h3 : c = y := h2; omega)
    | 2, ⟨c, h1, d, h2, h4⟩ => exact .inr (by rw [lv_b] at h1 h2; have h3 : d = y := h4; omega)
    | k + 3, ⟨c, h1, d, h2, e, h3, _⟩ => rw [lv_b] at h1 h2 h3; omega
  · rintro (rfl | ⟨h1, h2, h3⟩)
    · exact ⟨0, rfl⟩
    · have h4 : (x = 1 ∧ y = 2) ∨ (x = 1 ∧ y = 3) ∨ (x = 2 ∧ y = 3) := by omega
      rcases h4 with ⟨rfl, rfl⟩ | ⟨rfl, rfl⟩ | ⟨rfl, rfl⟩
      · exact ⟨1, 2, (lv_b 1 2).2 (.inl ⟨rfl, rfl⟩), rfl⟩
      · exact ⟨2, 2, (lv_b 1 2).2 (.inl ⟨rfl, rfl⟩), 3, (lv_b 2 3).2 (.inr ⟨rfl, rfl⟩), rfl⟩
      · exact ⟨1, 3, (lv_b 2 3).2 (.inr ⟨rfl, rfl⟩), rfl⟩
theorem lv_s1 (x y : Int) : tkS (lfM lvS m) [lvB] x y ↔ x = y ∨ (1 ≤ x ∧ x < y ∧ y ≤ 3) := by rw [tkS_one, lvB, lv_gp, lv_sb]
theorem lv_s2 (x y : Int) : tkS (lfM lvS m) [stN lvG, lvB] x y ↔ ∃ c, (x = c ∨ (x = 0 ∧ c = 2)) ∧ (c = y ∨ (1 ≤ c ∧ c < y ∧ y ≤ 3)) := by
  rw [tkS]
  constructor
  · rintro ⟨c, h1, h2⟩; exact ⟨c, (lv_sg x c).1 h1, (lv_s1 c y).1 h2⟩
  · rintro ⟨c, h1, h2⟩; exact ⟨c, (lv_sg x c).2 h1, (lv_s1 c y).2 h2⟩
theorem lv_tk : tkN (lfM lvS m) lvT 0 3 := by
  rw [lvT, tk_seq _ _ rfl, tkS]
  exact ⟨1, by rw [lvA, lv_gp, lv_sa]; exact .inr ⟨rfl, rfl⟩, (lv_s2 1 3).2 ⟨1, .inl rfl, .inr (by omega)⟩⟩
theorem cut_eq {R S : Rl} {least a b k : Nat} (hk : k ≤ b) (h1 : least ≤ k) (h2 : R a k) (h3 : S k b) (hm : ∀ j : Nat, j ≤ b → R a j → S j b → j ≤ k) : cutK R S least a b = k :=
  topN_eq hk ⟨h1, h2, h3⟩ (fun j h4 h5 => hm j h4 h5.2.1 h5.2.2)
theorem lv_rnd (b k : Nat) : ∀ (ps : List Ps) (l : List (Int × Int)), walkR ps (List.replicate k (leafN b)) l = l
  | [], l => by rw [walkR]
  | p :: r, l => by
    cases k with
    | zero => rw [List.replicate_zero, walkR]
    | succ k =>
      rw [List.replicate_succ, walkR, lv_rnd b k r]
      obtain ⟨d, ps⟩ := p
      rw [leafN, walkN, if_neg (show ¬ ((2 : Int) = 7) by decide)]
      unfold ndsOf
      rw [if_neg (by simp), if_neg (by simp)]
      cases ps with
      | nil => rw [walkR]
      | cons => rw [walkR]
theorem lv_star (b : Nat) (d : Pd) (ps : List Ps) (l : List (Int × Int)) : walkN (.mk d ps) (stN (leafN b)) l = l := by
  rw [stN, walkN, if_neg (show ¬ ((8 : Int) = 7) by decide)]
  unfold ndsOf
  rw [if_neg (by simp), if_pos rfl]
  exact lv_rnd b ps.length ps l
theorem lv_told : toldN (lfM lvS m) lvT 0 3 3 = [(0, 3), (0, 1), (-1, -1), (1, 3)] := by
  have hL := lfM_ok lvS m
  have c1 : cutK (tkN (lfM lvS m) lvA) (tkS (lfM lvS m) [stN lvG, lvB]) 0 0 3 = 1 := cut_eq (by omega) (by omega) (by rw [lvA, lv_gp, lv_sa]; exact .inr ⟨rfl, rfl⟩) ((lv_s2 _ _).2 ⟨1, .inl rfl, .inr (by omega)⟩) (fun j h1 h2 _ => by
    rw [lvA, lv_gp, lv_sa] at h2
    omega)
  have c2 : cutK (tkN (lfM lvS m) (stN lvG)) (tkS (lfM lvS m) [lvB]) 1 1 3 = 1 := cut_eq (by omega) (by omega) ((lv_sg _ _).2 (.inl rfl)) ((lv_s1 _ _).2 (.inr (by omega))) (fun j h1 h2 _ => by
    rw [lv_sg] at h2
    omega)
  have c3 : cutK (tkN (lfM lvS m) lvB) (tkS (lfM lvS m) []) 1 1 3 = 3 := cut_eq (by omega) (by omega) (by rw [lvB, lv_gp, lv_sb]; exact .inr (by omega)) (by rw [tkS]) (fun j h1 _ _ => h1)
  have t1 : tkN (lfM lvS m) lvA (0 : Nat) (1 : Nat) := by rw [lvA, lv_gp, lv_sa]; exact .inr ⟨rfl, rfl⟩
  have t2 : tkN (lfM lvS m) lvB (1 : Nat) (3 : Nat) := by rw [lvB, lv_gp, lv_sb]; exact .inr (by omega)
  unfold toldN
  rw [lvT, bestN, walkN, if_neg (show ¬ ((hdV 5).kind = 6 ∨ (hdV 5).kind = 7) by decide), if_pos (show (hdV 5).kind = 5 from rfl), if_neg (show ¬ ((hdV 5).kind = 7) by decide)]
  unfold ndsOf
  rw [if_neg (show ¬ ((hdV 5).kind = 6) by decide), if_neg (show ¬ ((hdV 5).kind = 8) by decide)]
  rw [bestS, c1, bestS, c2, bestS, c3, bestS, walkR, walkR, walkR, walkR]
  have w1 : ∀ l, walkN (bestN (lfM lvS m) lvA (0 : Nat) (1 : Nat)) lvA l = setS 1 (0, 1) l := fun l => by
    have hg := walk_group (s := lvS) (m := m) (h := ⟨7, noS, 1, 0, 0, false⟩) (s0 := stN (leafN 97)) (a := 0) (b := 1) rfl t1 l
    rw [show lvA = .mk ⟨7, noS, 1, 0, 0, false⟩ [stN (leafN 97)] from rfl, hg]
    cases hb : bestN (lfM lvS m) (stN (leafN 97)) 0 1 with
    | mk d ps => rw [lv_star]; simp [stN, leafN, unsetN, unsetL]
  have w3 : ∀ l, walkN (bestN (lfM lvS m) lvB (1 : Nat) (3 : Nat)) lvB l = setS 3 (1, 3) l := fun l => by
    have hg := walk_group (s := lvS) (m := m) (h := ⟨7, noS, 3, 0, 0, false⟩) (s0 := stN (leafN 98)) (a := 1) (b := 3) rfl t2 l
    rw [show lvB = .mk ⟨7, noS, 3, 0, 0, false⟩ [stN (leafN 98)] from rfl, hg]
    cases hb : bestN (lfM lvS m) (stN (leafN 98)) 1 3 with
    | mk d ps => rw [lv_star]; simp [stN, leafN, unsetN, unsetL]
  have w2 : ∀ l, walkN (bestN (lfM lvS m) (stN lvG) (1 : Nat) (1 : Nat)) (stN lvG) l = l := fun l => by
    have hn : ¬ tkN (lfM lvS m) lvG (1 : Nat) (1 : Nat) := by rw [lvG, lv_gp, lv_ab]; omega
    have hr : repR (fun x y => bestA (lfM lvS m) [lvG] x y) (fun x y => tkA (lfM lvS m) [lvG] x y) false 0 (-1) 1 1 = [] := by
      unfold repR
      rw [if_neg (show ¬ ((-1 : Int) = 0) by decide), if_pos (show (1 : Nat) = 1 ∧ (0 : Int) = 0 from ⟨rfl, rfl⟩), if_neg (fun h => hn ((tkA_one _ _ _ _).1 h.2))]
    rw [stN, bestN, if_neg (show ¬ ((8 : Int) = 6 ∨ (8 : Int) = 7) by decide), if_neg (show ¬ ((8 : Int) = 5) by decide), if_pos (show (8 : Int) = 8 from rfl), hr, walkN, if_neg (show ¬ ((8 : Int) = 7) by decide), walkR]
  rw [w1, w2, w3]
  rfl
theorem lv_find : fndL (lfM lvS m) lvS.size lvT 0 3 = some [(0, 3), (0, 1), (-1, -1), (1, 3)] := by
  have hM := tkN_mon (lfM_ok lvS m) lvT
  have e : lvS.size = 3 := rfl
  rw [e] at hM ⊢
  have h3 : tkN (lfM lvS m) lvT ((0 : Nat) : Int) (3 : Int) := lv_tk
  rcases endR_cases hM (a := 0) (by omega) with ⟨_, h2⟩ | ⟨k, h1, h2, _, h4, h5⟩
  · exact absurd h3 (h2 3)
  · have h6 := h5 3 h3
    have hk : k = 3 := by omega
    subst hk
    unfold fndL
    rw [find_hit (by omega) h1, Option.map_some]
    simp only
    rw [lv_told]
end

end Go.Proofs.YtgfknlkpdiejgaaGreatDoor
