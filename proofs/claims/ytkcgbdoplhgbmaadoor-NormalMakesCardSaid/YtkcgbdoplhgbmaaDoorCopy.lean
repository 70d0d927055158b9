/- tree.Copy as a contract: the tree as new memory. Condition: the tree lies in memory, its lists are short. -/
import Derived.Test.YtkcgbdoplhgbmaaDoorNodeW
namespace Go.Proofs.YtkcgbdoplhgbmaaDoor
open Go Go.RowKit

theorem kids_full {W : World} {B : Nat} {e : TypeId} {v : Value} {l : List Kid} {m : Nat} (h : LstZ W B e v l (List.replicate m zrow)) (hm : m = 0) : LstFp W B e v l := by subst hm; exact h
theorem set_first (l : List Kid) (m : Nat) (r : List Value) : (kidsRow l ++ List.replicate (m + 1) zrow).set l.length r = kidsRow l ++ r :: List.replicate m zrow := by
  rw [List.replicate_succ, List.set_append_right _ _ (by simp [kidsRow])]
  simp [kidsRow]

set_option maxRecDepth 100000 in
set_option maxHeartbeats 4000000 in
theorem copy_any : ∀ (n : Nd) (sv : Value) (w : World), NdOk w n sv → smallN n →
    Calls Tryd.prog 59 #[nodeV n.h sv] w (RetNd w n) := by
  refine Nd.ind fun hd subs ih sv w hn hsm => ?_
  obtain ⟨A, c, rfl⟩ := hn.shape
  obtain ⟨hlen, hsm⟩ := hsm
  have IH := Lib.hid (fun n hm sv w hn => ih n hm sv w hn (smallL_mem hsm n hm))
  have HN := Lib.hid hn
  clear ih hsm hn
  simp only [Nd.h, Nd.subs] at *
  go_enter Tryd.func59, Tryd.ntmps59
  go_upto_region 1 with (first
    | (refine wpl_boxNd rfl _ rfl hd _ rfl ?_; intro b w1 hb hx1 eb sb)
    | (refine wpl_allocNd rfl rfl ?_; intro z w2 hz hx2 ez sz))
  have hx12 := hx1.trans hx2
  have hb2 := hb.ext hx2
  have c5 : w2.cell? ⟨b, 5, none⟩ = some (.slice A subs.length c) := hb2.cell 5
  have hbz : b < z := by omega
  have hwz : w.heap.size ≤ z := by omega
  have hwb : w.heap.size ≤ b := eb
  clear hb hx1 hx2 eb sb
  by_cases h0 : subs.length = 0
  · have hs0 : subs = [] := List.eq_nil_of_length_eq_zero h0
    subst hs0
    simp only [List.length_nil] at *
    go_wp2_with (first
      | (refine wpl_storeSubs rfl _ _ rfl rfl b hd (.slice none 0 0) _ rfl rfl (isSl_mk _ _ _) hb2 ?_; intro w3 hb3 hk3)
      | (refine wpl_loadNd rfl _ rfl b 0 hd _ rfl hb3.nd ?_)
      | (refine wpl_storeNd rfl _ _ rfl rfl z hd _ (.slice none 0 0) _ rfl rfl (isSl_mk _ _ _) (hz.keep1 hk3 (by omega)) ?_; intro w4 hz4 hk4))
    exact ret_nd rfl rfl rfl hz4 ⟨_, rfl, NdNew.nil _ _ _ _ _, (hx12.keep1 hk3 (by omega)).keep1 hk4 hwz⟩
  · go_upto_region 5 with (refine wpList_makeR rfl _ _ _ rfl w2.heap.size 27 zrow 10 96 Tryd.underlying25 info_ndZ rfl (by decide) subs.length rfl rfl (by omega) (by omega) (Nat.le_refl _) ?_; intro g w3 hO hx3 hg hg')
    have hL0 : LstZ w3 w2.heap.size 27 (.slice (some ⟨g, 0, none⟩) subs.length subs.length) [] (List.replicate subs.length zrow) := ⟨hO, (fun _ h => by cases h), List.nodup_nil, (fun _ h => by cases h)⟩
    have c5' := hx3.cell c5
    clear hO
    go_wp2
    clear c5'
    go_loopw [19] (fun i wr => ∃ (k : Nat) (l : List Kid), k ≤ subs.length ∧ i = .int .i64 k ∧ l.map (·.1) = subs.take k ∧ LstZ wr w2.heap.size 27 (.slice (some ⟨g, 0, none⟩) subs.length subs.length) l (List.replicate (subs.length - k) zrow) ∧ Ext w2 wr) (fun i _ => subs.length - (intOf i).toNat)
    case atStart => exact ⟨0, [], Nat.zero_le _, rfl, rfl, hL0, hx3⟩
    case round =>
      clear hL0 hx3
      obtain ⟨k, l, hk, rfl, hl, hL, hx⟩ := hrel
      have HL := Lib.hid hl
      clear hl
      by_cases hlt : k < subs.length
      · obtain ⟨g0, o0, sv, rfl, hat, hok⟩ := HN.out.get k hlt
        have hxw := hx12.trans hx
        replace hat := hat.ext hxw
        have IHk := Lib.hid (fun w' (hw' : Ext wr w') => IH.out subs[k] (List.getElem_mem hlt) sv w' (NdOk.ext (hxw.trans hw') _ _ hok))
        have HM := Lib.hid (show (l.map (·.1)) ++ [subs[k]] = subs.take (k + 1) by rw [HL.out, take_snoc subs k hlt])
        have hll : l.length = k := by have := congrArg List.length HL.out; simp at this; omega
        have HK := Lib.hid hll
        clear IH HN HL hll
        generalize subs[k] = nk at *
        have d1 : (k : Int) < (subs.length : Int) := by omega
        go_wp2_with (first
          | (refine wpl_loadNd rfl _ rfl g0 (o0 + k * 10) nk.h sv rfl hat ?_)
          | (refine wpl_allocNd rfl rfl ?_; intro s w4 hs hx4 es ss)
          | (refine wpl_storeNd rfl _ _ rfl rfl s nk.h _ sv _ rfl rfl hok.sl hs ?_; intro w5 hs5 hk5; have hx5 := hx4.keep1 hk5 es)
          | (refine wpl_loadNd rfl _ rfl s 0 nk.h sv rfl hs5.nd ?_)
          | (go_at_call 59; refine (IHk.out _ hx5).mono ?_; rintro e w6 ⟨sv6, rfl, hn6, hx6⟩)
          | (refine wpl_setNd rfl _ _ rfl rfl w2.heap.size g _ _ _ k nk.h sv6 rfl rfl hn6.ok.sl (hL.ext (hx5.trans hx6)).own (by simp [kidsRow, HK.out]; omega) ?_; intro w7 hO7 hg7))
        have hsz3 := hx.size
        have hsz5 := hx5.size
        obtain ⟨f, hL7⟩ := LstZ.snoc (zs' := List.replicate (subs.length - (k + 1)) zrow) hL (hx5.trans hx6) (by omega) (hn6.mono hsz5) (by
          rw [show subs.length - k = (subs.length - (k + 1)) + 1 by omega] at hO7
          have := set_first l (subs.length - (k + 1)) (nodeC nk.h sv6)
          rw [HK.out] at this
          rw [this] at hO7
          exact hO7) hg7 (.inl rfl)
        have hx7 : Ext w2 w7 := (hx.trans (hx5.trans hx6)).grown hg7 (fun i hi => by injection hi with hi; omega)
        clear hL hx hat hs hx4 es ss hs5 hk5 hx5 hn6 hx6 hO7 hg7 hok c5
        go_roundw
        case rel => exact ⟨k + 1, l ++ [(nk, sv6, f)], by omega, by go_num, by simpa using HM.out, hL7, hx7⟩
        case measure => simp [intOf]; omega
      · have hkl : subs.take k = subs := List.take_of_length_le (by omega)
        rw [hkl] at HL
        have hL2 := kids_full hL (by omega)
        have hb3 := hb2.ext hx
        have hz3 := hz.ext hx
        have c5' := hx.cell c5
        have HN2 := Lib.hid (hL2.node hd)
        rw [HL.out] at HN2
        have hd1 : ¬ (k : Int) < (subs.length : Int) := by omega
        clear hkl hL IH HN HL c5 hL2
        go_wp2_with (first
          | (refine wpl_storeSubs rfl _ _ rfl rfl b hd _ _ rfl rfl (isSl_mk _ _ _) hb3 ?_; intro w4 hb4 hk4)
          | (refine wpl_loadNd rfl _ rfl b 0 hd _ rfl hb4.nd ?_)
          | (refine wpl_storeNd rfl _ _ rfl rfl z hd _ _ _ rfl rfl (isSl_mk _ _ _) (hz3.keep1 hk4 (by omega)) ?_; intro w5 hz5 hk5))
        have hsz := hx.size
        exact ret_nd rfl rfl rfl hz5 ⟨_, rfl, ((HN2.out.keep1 hk4 (by omega)).keep1 hk5 (by omega)).mono (by omega), ((hx12.trans hx).keep1 hk4 (by omega)).keep1 hk5 (by omega)⟩

end Go.Proofs.YtkcgbdoplhgbmaaDoor
