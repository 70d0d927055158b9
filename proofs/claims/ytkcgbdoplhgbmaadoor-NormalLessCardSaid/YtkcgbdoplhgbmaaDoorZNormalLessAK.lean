/- trawlref15.Of and Normal as contracts. Condition: the tree lies in memory, clean. The fixed facts of layer 15's statements; tree.Group, tree.Groups as contracts. Condition: the error values lie where they lie. A list of trees in memory, each in blocks of its own, as a list: one of them turned. No program. trawlnum.CopyNode as a contract: the tree as new memory. Condition: the tree lies in memory, its lists are short. trawlnum.Spoil and trawllaw14.spoilFirst as contracts: a tree whose lists lie in blocks of their own; only those turn. Condition: that; its lists are short. -/
import Derived.Test.YtkcgbdoplhgbmaaDoorZNormalLessAJ
import Derived.Test.YtkcgbdoplhgbmaaDoorZNormalLessAB
import Derived.Test.YtkcgbdoplhgbmaaDoorNrmI
import Derived.Test.YtkcgbdoplhgbmaaDoorText
import Derived.Test.YtkcgbdoplhgbmaaDoorZNormalLessAC
import Derived.Test.YtkcgbdoplhgbmaaDoorNodeW
import Derived.Test.YtkcgbdoplhgbmaaDoorCopy
import Derived.Test.YtkcgbdoplhgbmaaDoorExpP
import Derived.Deep.LoopGhost
namespace Go.Proofs.YtkcgbdoplhgbmaaDoor
open Go Go.RowKit

set_option maxRecDepth 100000 in
set_option maxHeartbeats 8000000 in
theorem rof_any : ∀ (n : Nd) (sv : Value) (w : World), NdOk w n sv → okN n → cntN n ≤ 1000000 →
    Calls Tryd.prog 62 #[nodeV n.h sv] w (RetB w (normN n)) := by
  refine Nd.ind fun hd subs ih sv w hn hok hcnt => ?_
  obtain ⟨A, c, rfl⟩ := hn.shape
  obtain ⟨f1, f2⟩ := form_at hok.1
  obtain ⟨c1, c2⟩ := cl_at hok.2
  have hsm := cnt_small _ hcnt
  have hcl : cntL subs ≤ 1000000 := by rw [cntN] at hcnt; omega
  have hlen : subs.length ≤ 1000000 := by have := cntL_len subs; omega
  have hoks : ∀ n ∈ subs, okN n := fun n hm => ⟨f2 n hm, c2 n hm⟩
  have IH := Lib.hid (fun n (hm : n ∈ subs) sv w (hn : NdOk w n sv) => ih n hm sv w hn (hoks n hm) (by have := cntL_mem hm; omega))
  have HFR := Lib.hid (fun W (hW : Ext w W) => rfree_any (.mk hd subs) _ W (hn.ext hW) hsm)
  have HSI := Lib.hid (fun W (hW : Ext w W) (hf : freeN (.mk hd subs) = true) => rsimple_any (.mk hd subs) _ W (hn.ext hW) hok hf hcnt)
  have HN := Lib.hid hn
  have HR := Lib.hid (by rw [normN] : normN (.mk hd subs) = if freeN (.mk hd subs) = true then simpN (.mk hd subs) else .mk hd (normL subs))
  clear ih hn hok hcnt f1 f2 c1 c2 hsm hcl hoks
  generalize normN (.mk hd subs) = res at *
  generalize freeN (.mk hd subs) = fr at *
  generalize simpN (.mk hd subs) = sm at *
  simp only [Nd.subs] at *
  show Calls _ _ #[nodeV hd _] _ _
  have HFR' := Lib.hid (fun W (hW : Ext w W) => (HFR.out W hW : Calls Tryd.prog 21 #[nodeV hd (.slice A subs.length c)] W fun r w' => r = .returned (.bool fr) ∧ Ext W w'))
  clear HFR
  go_enter Tryd.func62, Tryd.ntmps62
  go_upto_region 1 with (first
    | (refine wpl_boxNd rfl _ rfl hd _ rfl ?_; intro b w1 hb hx1 eb sb)
    | (refine wpl_allocNd rfl rfl ?_; intro z w2 hz hx2 ez sz))
  have hx12 := hx1.trans hx2
  have hb2 := hb.ext hx2
  have c5 : w2.cell? ⟨b, 5, none⟩ = some (.slice A subs.length c) := hb2.cell 5
  have hbz : b < z := by omega
  have hwz : w.heap.size ≤ z := by omega
  have hwb : w.heap.size ≤ b := eb
  have hb2s := hb2.lt
  clear hb hx1 hx2 eb ez
  have hsz12 := hx12.size
  cases fr
  · have HE2 := Lib.hid (HR.out.trans (if_neg (by decide)))
    clear HR HSI
    go_upto_region 6 with (first
      | (refine wpl_loadNd rfl _ rfl b 0 hd _ rfl hb2.nd ?_)
      | (go_at_call 21; refine (HFR'.out _ hx12).mono ?_; rintro e w2' ⟨rfl, hx2'⟩)
      | (refine wpl_loadNd rfl _ rfl b 0 hd _ rfl (hb2.ext hx2').nd ?_)
      | (refine wpl_allocNd rfl rfl ?_; intro s w3 hs hx3 es ss)
      | (refine wpl_storeNd rfl _ _ rfl rfl s hd _ _ _ rfl rfl (isSl_mk _ _ _) hs ?_; intro w4 hs4 hk4)
      | (refine wpl_storeSubs rfl _ _ rfl rfl s hd (.slice none 0 0) _ rfl rfl (isSl_mk _ _ _) hs4 ?_; intro w5 hs5 hk5))
    have es' : w2.heap.size ≤ s := by have := hx2'.size; omega
    have hx5 := ((hx2'.trans hx3).keep1 hk4 es').keep1 hk5 es'
    have c55 := hx5.cell c5
    have hz2 := hz
    have es := es'
    have hxw := hx12.trans hx5
    have hs5l := hs5.lt
    have h25 := hx5.size
    clear hb2 hs hs4 hk4 hk5 hx3 hz HFR' es' hx2'
    have hL0 : LstB w5 w5.heap.size w5.heap.size (.slice none 0 0) [] := LstB.nil _ _ _
    have hx22 : Ext w2 w5 := hx5
    go_wp2
    go_loopw [5] (fun i wr => ∃ (k : Nat) (v : Value) (l : List (Nd × Value)), k ≤ subs.length ∧ i = .int .i64 k ∧ l.map (·.1) = normL (subs.take k) ∧ w5.heap.size ≤ wr.heap.size ∧ LstB wr w5.heap.size w5.heap.size v l ∧ Blk wr s 27 (nodeA hd v) ∧ Ext w2 wr) (fun i _ => subs.length - (intOf i).toNat)
    case atStart => exact ⟨0, _, [], Nat.zero_le _, rfl, by rw [List.take_zero, normL]; rfl, Nat.le_refl _, hL0, hs5, hx22⟩
    case round =>
      clear hL0 hx22 hs5 c55
      obtain ⟨k, v, l, hk, rfl, hl, hwr, hL, hB, hx⟩ := hrel
      have HL := Lib.hid hl
      have hll : l.length = k := by have := congrArg List.length hl; rw [normL_map] at this; simpa [Nat.min_eq_left hk] using this
      have hll2 : l.length ≤ 1000000000 := by omega
      clear hl
      have hxr := hx12.trans hx
      have c5r := hx.cell c5
      by_cases hlt : k < subs.length
      · obtain ⟨g0, o0, sv, rfl, hat, hok⟩ := HN.out.get k hlt
        replace hat := hat.ext hxr
        have IHk := Lib.hid (fun w' (hw' : Ext wr w') => IH.out subs[k] (List.getElem_mem hlt) sv w' (NdOk.ext (hxr.trans hw') _ _ hok))
        have HM := Lib.hid (show (l.map (·.1)) ++ [normN subs[k]] = normL (subs.take (k + 1)) by rw [HL.out, take_snoc subs k hlt, normL_app, normL_one])
        have hsl := hok.sl
        clear IH HN HL hok
        generalize normN subs[k] = ek at *
        generalize subs[k] = nk at *
        have t1 : (k : Int) < (subs.length : Int) := by omega
        have k5 : ∀ W, Ext wr W → W.cell? ⟨s, 5, none⟩ = some v := fun W hW => (hB.ext hW).cell 5
        go_upto_region 9 with fail
        refine wp_region_mid (fun W => Ext wr W) 9 (by kernel_rfl) ?_
        refine wpAnyM_pure (i := 0) rfl (by kernel_rfl) (by kernel_rfl) (by kernel_rfl) (by decide) (fun _ _ _ h => h) (Ext.refl wr).drew rfl (fun W => by go_simp; try rfl) ?_
        refine wpAnyM_take (i := 1) (v := v) [9] rfl (by kernel_rfl) (by kernel_rfl) (by kernel_rfl) (by kernel_rfl) (fun _ _ _ h => h) (Ext.refl wr).drew (yieldsIf_value rfl (fun W hW => by have k5' := k5 W hW; go_simp; try rfl)) ?_
        simp only [Act.put, List.setIfInBounds_toArray]
        refine wpAnyM_pure (i := 2) rfl (by kernel_rfl) (by kernel_rfl) (by kernel_rfl) (by decide) (fun _ _ _ h => h) (Ext.refl wr).drew rfl (fun W => by go_simp; try rfl) ?_
        refine wpAnyM_pure (i := 4) rfl (by kernel_rfl) (by kernel_rfl) (by kernel_rfl) (by decide) (fun _ _ _ h => h) (Ext.refl wr).drew rfl (fun W => by go_simp; try rfl) ?_
        simp only [Act.put]
        have c5d : wr.drew.cell? ⟨b, 5, none⟩ = some (.slice (some ⟨g0, o0, none⟩) subs.length c) := c5r
        refine wpAnyM_step (i := 3) (by kernel_rfl) rfl (by decide) ?_
        go_wp2
        refine stepQ_ok ⟨(Ext.refl wr).drew, ?_⟩
        refine wpAnyM_step (i := 5) (by kernel_rfl) rfl (by decide) ?_
        go_wp2
        refine stepQ_ok ⟨(Ext.refl wr).drew, ?_⟩
        refine wpAnyM_step (i := 6) (by kernel_rfl) rfl (by decide) ?_
        refine wpl_loadNd rfl _ rfl g0 (o0 + k * 10) nk.h sv rfl hat.drew ?_
        refine stepQ_end ⟨(Ext.refl wr).drew, ?_⟩
        simp only [Act.put, List.setIfInBounds_toArray]
        refine wpAnyM_step (i := 7) (by kernel_rfl) rfl (by decide) ?_
        go_wp2_with (go_at_call 62; refine (IHk.out _ (Ext.refl wr).drew).mono ?_; rintro e w6 ⟨sv6, rfl, hn6, hx6⟩)
        have hx6' := (Ext.refl wr).drew.trans hx6
        refine stepQ_ok ⟨hx6', ?_⟩
        refine wpAnyM_step (i := 8) (by kernel_rfl) rfl (by decide) ?_
        refine wpl_oneNd rfl _ rfl ek.h sv6 rfl ?_
        intro g7 w7 hb7 hx7 e7 s7
        have hx7' := hx6'.trans hx7
        refine stepQ_end ⟨hx7', ?_⟩
        simp only [Act.put, List.setIfInBounds_toArray]
        have h67 := hx6'.size
        refine wpAnyM_last3 (t := 10) (u := 11) (by kernel_rfl) rfl (by kernel_rfl) rfl (by kernel_rfl) rfl (by kernel_rfl) ?_
        refine wpl_appB rfl _ _ rfl w5.heap.size w5.heap.size v l ek sv6 g7 1 rfl rfl (hL.ext hx7') (by have := hx7'.size; omega) (ndIn_ext (hn6.near (C := w5.heap.size) hwr (fun i hi => (hL.ownB i hi).2)) hx7) hb7 hll2 ?_
        intro v8 w8 hL8 hg8
        have hs8 : Blk w8 s 27 (nodeA hd v) := grown_keep1 (hB.ext hx7') hg8 (fun e => by have := (hL.ownB s e).1; omega)
        have hx8 : Ext w2 w8 := ext_grown_B (hx.trans hx7') (hL.ext hx7') h25 hg8
        refine stepQ_end ?_
        simp only [Act.put]
        go_wp2
        refine stepQ_ok ?_
        obtain ⟨A8, c8, rfl, _⟩ := hL8.len
        refine wpl_storeSubs rfl _ _ rfl rfl s hd _ _ rfl rfl (isSl_mk _ _ _) hs8 ?_
        intro w9 hs9 hk9
        have hx9 := hx8.keep1 hk9 es
        have hL9 := hL8.keep1 hk9 hs5l hs5l
        have hw9 : w5.heap.size ≤ w9.heap.size := by have := hx7'.size; have := hg8.size; have := hk9.size; omega
        clear hx8 hL8 hs8 hk9 hg8 hx7' hb7 hn6 hx6 hx6' hx7 e7 s7 h67 hL hB hx hat k5 c5r c5d hxr hwr
        go_wp2
        go_roundw
        case rel => exact ⟨k + 1, _, l ++ [(ek, sv6)], by omega, by go_num, by simpa using HM.out, hw9, hL9, hs9, hx9⟩
        case measure => simp [intOf]; omega
      · have hkl : subs.take k = subs := List.take_of_length_le (by omega)
        rw [hkl] at HL
        have t1 : ¬ (k : Int) < (subs.length : Int) := by omega
        have hnd := Lib.hid (hL.node (Nat.le_refl _) hd)
        rw [HL.out, ← HE2.out] at hnd
        have hsl := hnd.out.ok.sl
        have hz9 : Blk wr z 27 _ := hz2.ext hx
        have hhd : res.h = hd := by rw [HE2.out]; rfl
        clear hkl IH HN HL hL
        go_wp2_with (first
          | (refine wpl_loadNd rfl _ rfl s 0 hd v rfl hB.nd ?_)
          | (refine wpl_storeNd rfl _ _ rfl rfl z hd _ v _ rfl rfl hsl hz9 ?_; intro w7 hz7 hk7))
        exact ret_nd rfl rfl rfl hz7 ⟨v, by rw [hhd], ((hnd.out.keep1 hk7 (by omega)).mono (by omega)), (hx12.trans hx).keep1 hk7 hwz⟩
  · have HE := Lib.hid (HR.out.trans (if_pos rfl))
    have HSI2 := Lib.hid (fun W hW => (HSI.out W hW rfl : Calls Tryd.prog 87 #[nodeV hd (.slice A subs.length c)] W (RetB W sm)))
    clear HR IH HN HSI
    go_wp2_with (first
      | (refine wpl_loadNd rfl _ rfl b 0 hd _ rfl hb2.nd ?_)
      | (go_at_call 21; refine (HFR'.out _ hx12).mono ?_; rintro e w3 ⟨rfl, hx3⟩)
      | (refine wpl_loadNd rfl _ rfl b 0 hd _ rfl (hb2.ext hx3).nd ?_)
      | (go_at_call 87; refine (HSI2.out _ (hx12.trans hx3)).mono ?_; rintro e w4 ⟨sv4, rfl, hn4, hx4⟩)
      | (refine wpl_storeNd rfl _ _ rfl rfl z _ _ sv4 _ rfl rfl hn4.ok.sl (hz.ext (hx3.trans hx4)) ?_; intro w5 hz5 hk5))
    have := hx3.size
    exact ret_nd rfl rfl rfl hz5 ⟨sv4, by rw [HE.out], by rw [HE.out]; exact (hn4.keep1 hk5 (by omega)).mono (by omega), ((hx12.trans hx3).trans hx4).keep1 hk5 hwz⟩

def RetBE (w : World) (n : Nd) (k : Nat) (r : Ending) (w' : World) : Prop := ∃ sv, r = .returned (.tuple #[nodeV (resN n k).h sv, .int .i64 k]) ∧ NdB w.heap.size w' (resN n k) sv ∧ Ext w w'

set_option maxRecDepth 100000 in
set_option maxHeartbeats 4000000 in
theorem rnormal_any (n : Nd) (sv : Value) (w : World) (m : Int) (hn : NdOk w n sv) (hc : clN n) (hm : m ≤ 1000000) (hfew : 0 ≤ leftN n m) :
    Calls Tryd.prog 17 #[nodeV n.h sv] w (RetBE w (normN n) (chkN n)) := by
  have hcnt := few_cnt hm hfew
  have H1 := Lib.hid (fun W (hW : Ext w W) => check04_any n sv W m (hn.ext hW) hm hfew)
  have H2 := Lib.hid (fun W (hW : Ext w W) (hf : chkN n = 0) => rof_any n sv W (hn.ext hW) ⟨(chk_ok hf).1, hc⟩ hcnt)
  clear hn hm hfew hc hcnt
  generalize chkN n = ck at *
  generalize normN n = res at *
  generalize n.h = hd at *
  go_enter Tryd.func17, Tryd.ntmps17
  go_upto_region 1 with (first
    | (refine wpl_boxNd rfl _ rfl hd _ rfl ?_; intro b w1 hb hx1 eb sb)
    | (refine wpl_allocNd rfl rfl ?_; intro z w2 hz hx2 ez sz))
  have h1 := hx1.size
  by_cases hk : ck = 0
  · subst hk
    have H2' := Lib.hid (fun W hW => H2.out W hW rfl)
    clear H2
    go_wp2_with (first
      | (refine wpl_loadNd rfl _ rfl b 0 hd _ rfl (hb.ext hx2).nd ?_)
      | (go_at_call 61; refine (H1.out _ (hx1.trans hx2)).mono ?_; rintro e w3 ⟨rfl, hx3⟩)
      | (refine wpl_loadNd rfl _ rfl b 0 hd _ rfl (hb.ext (hx2.trans hx3)).nd ?_)
      | (go_at_call 62; refine (H2'.out _ ((hx1.trans hx2).trans hx3)).mono ?_; rintro e w4 ⟨sv4, rfl, hn4, hx4⟩)
      | (refine wpl_storeNd rfl _ _ rfl rfl z res.h _ sv4 _ rfl rfl hn4.ok.sl (hz.ext (hx3.trans hx4)) ?_; intro w5 hz5 hk5))
    have h2 := hx2.size
    have h3 := hx3.size
    exact ret_nd2 rfl rfl rfl rfl hz5 ⟨sv4, rfl, ((show NdB w3.heap.size w4 (resN res 0) sv4 from hn4).keep1 hk5 (by omega)).mono (by omega), (((hx1.trans hx2).trans hx3).trans hx4).keep1 hk5 (by omega)⟩
  · have HR := Lib.hid (show resN res ck = .mk (hdV 0) [] from if_neg hk)
    have n1 : ((ck : Int) != 0) = true := by simpa using hk
    clear H2
    go_wp2_with (first
      | (refine wpl_loadNd rfl _ rfl b 0 hd _ rfl (hb.ext hx2).nd ?_)
      | (go_at_call 61; refine (H1.out _ (hx1.trans hx2)).mono ?_; rintro e w3 ⟨rfl, hx3⟩)
      | (refine wpl_storeNd rfl _ _ rfl rfl z (hdV 0) _ (.slice none 0 0) _ rfl (node_lit _ _ _ _ _ _) (isSl_mk _ _ _) (hz.ext hx3) ?_; intro w5 hz5 hk5))
    exact ret_nd2 rfl rfl rfl rfl hz5 ⟨_, by rw [HR.out]; rfl, by rw [HR.out]; exact NdB.nil _ _ _ _ _, ((hx1.trans hx2).trans hx3).keep1 hk5 (by omega)⟩


end Go.Proofs.YtkcgbdoplhgbmaaDoor

namespace Go.Proofs.YtkcgbdoplhgbmaaDoor
open Go Go.RowKit

theorem grpA_app : ∀ (a b : List Nd) (x : Int), grpA x (a ++ b) = grpA (grpA x a) b
  | [], b, x => by rw [grpA]; rfl
  | n :: a, b, x => by
    show grpA x (n :: (a ++ b)) = _
    rw [grpA, grpA, grpA_app a b]
theorem grpA_one (n : Nd) (x : Int) : grpA x [n] = Max.max x (grpN n) := by rw [grpA, grpA]

set_option maxRecDepth 100000 in
set_option maxHeartbeats 4000000 in
theorem groups_any : ∀ (n : Nd) (sv : Value) (w : World), NdOk w n sv → smallN n →
    Calls Tryd.prog 27 #[nodeV n.h sv] w fun r w' => r = .returned (.int .i64 (grpN n)) ∧ Ext w w' := by
  refine Nd.ind fun hd subs ih sv w hn hsm => ?_
  obtain ⟨A, c, rfl⟩ := hn.shape
  obtain ⟨hlen, hsm⟩ := hsm
  have IH := Lib.hid (fun n hm sv w hn => ih n hm sv w hn (smallL_mem hsm n hm))
  have HN := Lib.hid hn
  have HP := Lib.hid (by rw [grpN] : grpN (.mk hd subs) = grpA (if hd.kind = 7 then Max.max 0 hd.num else 0) subs)
  clear ih hsm hn
  generalize grpN (.mk hd subs) = res at *
  simp only [Nd.subs] at *
  show Calls _ _ #[nodeV hd _] _ _
  go_enter Tryd.func27, Tryd.ntmps27
  go_upto_region 1 with (refine wpl_boxNd rfl _ rfl hd _ rfl ?_; intro b w1 hb hx1 eb sb)
  have c0 : w1.cell? ⟨b, 0, none⟩ = some (.int .i64 hd.kind) := hb.cell 0
  have c5 : w1.cell? ⟨b, 5, none⟩ = some (.slice A subs.length c) := hb.cell 5
  have c6 : w1.cell? ⟨b, 6, none⟩ = some (.int .i64 hd.num) := hb.cell 6
  clear hb
  generalize hd.kind = kind at *
  generalize hd.num = num at *
  have hx11 : Ext w1 w1 := Ext.refl w1
  go_upto_if 8 with fail
  obtain ⟨g0, hg0⟩ : ∃ g0, g0 = (if kind = 7 then Max.max 0 num else 0) := ⟨_, rfl⟩
  rw [← hg0] at HP
  have HG := Lib.hid hg0
  clear hg0
  go_cut [3, 8] (fun v _ wx => v = .int .i64 g0 ∧ w1 = wx)
  case first =>
    clear HP IH HN
    by_cases k7 : kind = 7
    · have HG2 := Lib.hid (HG.out.trans (if_pos k7))
      subst k7
      rw [max_if] at HG2
      clear HG
      by_cases hp : 0 < num
      · have HG3 := Lib.hid (HG2.out.trans (if_pos hp))
        clear HG2
        go_wp2
        go_meet
        case rel => exact ⟨by rw [HG3.out], rfl⟩
      · have HG3 := Lib.hid (HG2.out.trans (if_neg hp))
        clear HG2
        go_wp2
        go_meet
        case rel => exact ⟨by rw [HG3.out], rfl⟩
    · have HG2 := Lib.hid (HG.out.trans (if_neg k7))
      have n1 : (kind == 7) = false := by rw [beq_eq_false_iff_ne]; exact k7
      clear HG k7
      go_wp2
      go_meet
      case rel => exact ⟨by rw [HG2.out], rfl⟩
  obtain ⟨rfl, rfl⟩ := hcut
  clear c0 c6
  go_wp2
  go_loopw [3, 16] (fun a i wr => ∃ k : Nat, k ≤ subs.length ∧ i = .int .i64 k ∧ a = .int .i64 (grpA g0 (subs.take k)) ∧ Ext w1 wr) (fun _ i _ => subs.length - (intOf i).toNat)
  case atStart => exact ⟨0, Nat.zero_le _, rfl, by rw [List.take_zero, grpA], hx11⟩
  case round =>
    clear hx11
    obtain ⟨k, hk, rfl, rfl, hx⟩ := hrel
    by_cases hlt : k < subs.length
    · obtain ⟨gs, o0, sv, rfl, hat, hok⟩ := HN.out.get k hlt
      have hxw := hx1.trans hx
      replace hat := hat.ext hxw
      have HST := Lib.hid (show grpA g0 (subs.take (k + 1)) = Max.max (grpA g0 (subs.take k)) (grpN subs[k]) by rw [take_snoc subs k hlt, grpA_app, grpA_one])
      have IHk := Lib.hid (fun w' (hw' : Ext wr w') => IH.out subs[k] (List.getElem_mem hlt) sv w' (NdOk.ext (hxw.trans hw') _ _ hok))
      have hsh := hok.sl
      clear IH HN hok
      generalize grpA g0 (subs.take k) = acc at *
      generalize grpN subs[k] = pk at *
      generalize subs[k] = nk at *
      have d1 : (k : Int) < (subs.length : Int) := by omega
      go_wp2_with (first
        | (refine wpl_loadNd rfl _ rfl gs (o0 + k * 10) nk.h sv rfl hat ?_)
        | (refine wpl_allocNd rfl rfl ?_; intro s w4 hs hx4 es ss)
        | (refine wpl_storeNd rfl _ _ rfl rfl s nk.h _ sv _ rfl rfl hsh hs ?_; intro w5 hs5 hk5; have hx5 := hx4.keep1 hk5 es)
        | (refine wpl_loadNd rfl _ rfl s 0 nk.h sv rfl hs5.nd ?_)
        | (go_at_call 27; refine (IHk.out _ hx5).mono ?_; rintro e w6 ⟨rfl, hx6⟩))
      go_roundw
      case rel => exact ⟨k + 1, by omega, by go_num, by rw [HST.out, max_if], hx.trans (hx5.trans hx6)⟩
      case measure => simp [intOf]; omega
    · have hkl : subs.take k = subs := List.take_of_length_le (by omega)
      rw [hkl]
      have hd1 : ¬ (k : Int) < (subs.length : Int) := by omega
      clear IH HN hkl
      go_wp2
      go_ret
      exact ⟨by rw [HP.out]; rfl, hx1.trans hx⟩

set_option maxRecDepth 100000 in
set_option maxHeartbeats 4000000 in
theorem group_any (num : Int) (n : Nd) (sv : Value) (w : World) (hn : NdOk w n sv) (hsm : smallN n) :
    Calls Tryd.prog 57 #[.int .i64 num, nodeV n.h sv] w (RetNd w (.mk ⟨7, noS, num, 0, 0, false⟩ [n])) := by
  have HC := Lib.hid (fun W (hW : Ext w W) => copy_any n sv W (NdOk.ext hW _ _ hn) hsm)
  have hsl := hn.sl
  clear hn hsm
  go_enter Tryd.func57, Tryd.ntmps57
  go_wp2_with (first
    | (refine wpl_boxNd rfl _ rfl n.h _ rfl ?_; intro b w1 hb hx1 eb sb)
    | (refine wpl_allocNd rfl rfl ?_; intro z w2 hz hx2 ez sz)
    | (refine wpl_loadNd rfl _ rfl b 0 n.h sv rfl (hb.ext hx2).nd ?_)
    | (go_at_call 59; refine (HC.out _ (hx1.trans hx2)).mono ?_; rintro e w6 ⟨sv6, rfl, hn6, hx6⟩)
    | (refine wpl_oneNd rfl _ rfl n.h sv6 rfl ?_; intro g7 w7 hb7 hx7 e7 s7)
    | (refine wpl_storeNd rfl _ _ rfl rfl z ⟨7, noS, num, 0, 0, false⟩ _ (.slice (some ⟨g7, 0, none⟩) 1 1) _ rfl (node_lit _ _ _ _ _ _) (isSl_mk _ _ _) ((hz.ext hx6).ext hx7) ?_; intro w8 hz8 hk8))
  have h1 := hx1.size
  have h2 := hx2.size
  have h6 := hx6.size
  exact ret_nd rfl rfl rfl hz8 ⟨_, rfl, ((NdNew.one hn6 hx7 hb7 e7 h6 _ 1).keep1 hk8 sz).mono (by omega), ((hx1.trans hx2).trans (hx6.trans hx7)).keep1 hk8 (by omega)⟩

/-! ### a* from 2 to 5 times -/
def starA : Nd := .mk ⟨8, noS, 0, 0, -1, false⟩ [leafN 97]
def rep25 : Nd := .mk ⟨8, noS, 0, 2, 5, false⟩ [starA]
theorem leaf_zero : zeroS (fun x => x == 97) = false := by
  cases h : zeroS (fun x => x == 97)
  · rfl
  · have := zero_clean h (fun b hb => by simp; omega)
    have h2 := congrFun this 97
    simp [noS] at h2
theorem leaf_form : formB (leafN 97) = true := by rw [leafN, formB, formL]; simp [formedB]
theorem leaf_cl : clN (leafN 97) := ⟨fun b hb => by simp; omega, trivial⟩
theorem star_form : formB starA = true := by
  rw [starA, formB, formL, formL, leaf_form]
  simp [formedB, zeroS_no]
theorem rep25_form : formB rep25 = true := by
  rw [rep25, formB, formL, formL, star_form]
  simp [formedB, zeroS_no]
theorem star_cl : clN starA := ⟨clS_no, leaf_cl, trivial⟩
theorem rep25_cl : clN rep25 := ⟨clS_no, star_cl, trivial⟩
theorem leaf_free : freeN (leafN 97) = true := by rw [leafN, freeN, freeL]; rfl
theorem star_free : freeN starA = true := by rw [starA, freeN, freeL, freeL, leaf_free]; rfl
theorem rep25_free : freeN rep25 = true := by rw [rep25, freeN, freeL, freeL, star_free]; rfl
theorem leaf_simp : simpN (leafN 97) = leafN 97 := by rw [leafN, simpN, if_neg (by decide), if_neg (by decide), if_neg (by decide)]
theorem star_simp : simpN starA = starA := by
  rw [starA, simpN, if_neg (by decide), if_neg (by decide), if_pos rfl, simpL, simpL, leaf_simp]
  show repO _ (leafN 97) = _
  have hn : nthB (leafN 97) = false := by
    show (decide _ && zeroS (fun x => x == 97)) = false
    rw [leaf_zero, Bool.and_false]
  unfold repO
  rw [if_neg (by decide), if_neg (by rw [hn]; decide), if_neg (by decide)]
theorem normN_free {n : Nd} (h : freeN n = true) : normN n = simpN n := by obtain ⟨a, b⟩ := n; rw [normN, if_pos h]
theorem rep25_norm : normN rep25 = starA := by
  rw [normN_free rep25_free, rep25, simpN, if_neg (by decide), if_neg (by decide), if_pos rfl, simpL, simpL, star_simp]
  show repO _ starA = _
  have hn : nthB starA = false := rfl
  unfold repO
  rw [if_neg (by decide), if_neg (by rw [hn]; decide), if_pos (.inr (by decide))]

end Go.Proofs.YtkcgbdoplhgbmaaDoor

namespace Go.Proofs.YtkcgbdoplhgbmaaDoor
open Go Go.RowKit

structure KidsAt (W : World) (g : Nat) (l : List Kid) : Prop where
  at_ : ∀ j x, l[j]? = some x → NdAt W g (j * 10) x.1.h x.2.1
  kid : ∀ x ∈ l, NdFp W x.1 x.2.1 x.2.2
  blk : ∃ t cur, Blk W g t cur
theorem ndsFp_kids {W : World} {g : Nat} : ∀ (subs : List Nd) (k : Nat) (fps : List Nat), NdsFp W subs g k fps →
    ∃ l : List Kid, subs = l.map (·.1) ∧ fps = kidsFp l ∧ (∀ j x, l[j]? = some x → NdAt W g ((k + j) * 10) x.1.h x.2.1) ∧ ∀ x ∈ l, NdFp W x.1 x.2.1 x.2.2
  | [], k, fps, h => by
    unfold NdsFp at h
    exact ⟨[], rfl, h, (fun j x hj => by simp at hj), (fun x hx => by cases hx)⟩
  | n :: r, k, fps, h => by
    unfold NdsFp at h
    obtain ⟨f1, f2, sv, rfl, h1, h2, h3⟩ := h
    obtain ⟨l, rfl, rfl, h4, h5⟩ := ndsFp_kids r (k + 1) f2 h3
    refine ⟨(n, sv, f1) :: l, rfl, rfl, fun j x hj => ?_, fun x hx => ?_⟩
    · cases j with
      | zero =>
        simp only [List.getElem?_cons_zero, Option.some.injEq] at hj
        subst hj
        exact h1
      | succ j =>
        rw [show k + (j + 1) = k + 1 + j by omega]
        exact h4 j x (by simpa using hj)
    · rcases List.mem_cons.1 hx with rfl | hx
      · exact h2
      · exact h5 x hx
theorem NdFp.kids {W : World} {h : Hd} {subs : List Nd} {sv : Value} {fp : List Nat} (hn : NdFp W (.mk h subs) sv fp) (hne : subs ≠ []) :
    ∃ g c l, sv = .slice (some ⟨g, 0, none⟩) subs.length c ∧ fp = g :: kidsFp l ∧ subs = l.map (·.1) ∧ KidsAt W g l := by
  unfold NdFp at hn
  rcases hn with ⟨h0, _⟩ | ⟨g, c, fps, rfl, rfl, hb, hs⟩
  · exact absurd h0 hne
  · obtain ⟨l, rfl, rfl, h1, h2⟩ := ndsFp_kids _ _ _ hs
    exact ⟨g, c, l, rfl, rfl, rfl, fun j x hj => by have := h1 j x hj; rwa [Nat.zero_add] at this, h2, hb⟩
theorem KidsAt.node {W : World} {g c : Nat} {l : List Kid} (hk : KidsAt W g l) (h : Hd) : NdFp W (.mk h (l.map (·.1))) (.slice (some ⟨g, 0, none⟩) l.length c) (g :: kidsFp l) := by
  unfold NdFp
  refine .inr ⟨g, c, kidsFp l, by simp, rfl, hk.blk, ndsFp_of l 0 (fun j x hj i hi => ?_) hk.kid⟩
  rw [Nat.zero_add]
  exact hk.at_ j x hj i hi
theorem kids_disj : ∀ {l : List Kid}, (kidsFp l).Nodup → ∀ {j k : Nat} {x y : Kid}, j ≠ k → l[j]? = some x → l[k]? = some y → ∀ b ∈ x.2.2, b ∉ y.2.2
  | [], _, j, k, x, y, _, hj, _ => by simp at hj
  | a :: l, hn, j, k, x, y, hne, hj, hk => by
    have hn' : (a.2.2 ++ kidsFp l).Nodup := hn
    rw [List.nodup_append] at hn'
    have hmem : ∀ {i : Nat} {z : Kid}, l[i]? = some z → ∀ b ∈ z.2.2, b ∈ kidsFp l := fun hi b hb => List.mem_flatMap.2 ⟨_, List.mem_of_getElem? hi, hb⟩
    cases j with
    | zero =>
      cases k with
      | zero => exact absurd rfl hne
      | succ k =>
        simp only [List.getElem?_cons_zero, Option.some.injEq] at hj
        subst hj
        exact fun b hb hb2 => hn'.2.2 b hb b (hmem (by simpa using hk) b hb2) rfl
    | succ j =>
      cases k with
      | zero =>
        simp only [List.getElem?_cons_zero, Option.some.injEq] at hk
        subst hk
        exact fun b hb hb2 => hn'.2.2 b hb2 b (hmem (by simpa using hj) b hb) rfl
      | succ k => exact kids_disj (j := j) (k := k) hn'.2.1 (fun e => hne (by rw [e])) (by simpa using hj) (by simpa using hk)
/-- One of them turned, in a world that keeps all else. -/
theorem KidsAt.turn {W W' : World} {F : Nat → Prop} {g k : Nat} {l : List Kid} {n n' : Nd} {sv : Value} {f : List Nat} (h : KidsAt W g l) (hk : l[k]? = some (n, sv, f)) (hF : Keeps F W W') (hg : ¬ F g)
    (hlt : ∀ b ∈ kidsFp l, b < W.heap.size) (hoth : ∀ j x, j ≠ k → l[j]? = some x → ∀ b ∈ x.2.2, ¬ F b) (hn : NdFp W' n' sv f) (hh : n'.h = n.h) : KidsAt W' g (l.set k (n', sv, f)) := by
  have hkl : k < l.length := (List.getElem?_eq_some_iff.1 hk).1
  have hmem : ∀ {i : Nat} {z : Kid}, l[i]? = some z → ∀ b ∈ z.2.2, b ∈ kidsFp l := fun hi b hb => List.mem_flatMap.2 ⟨_, List.mem_of_getElem? hi, hb⟩
  refine ⟨fun j x hj => ?_, fun x hx => ?_, ?_⟩
  · by_cases hjk : j = k
    · subst hjk
      rw [List.getElem?_set_self hkl, Option.some.injEq] at hj
      subst hj
      have := (h.at_ j _ hk).keeps hF hg
      simpa [hh] using this
    · rw [List.getElem?_set_ne (fun e => hjk e.symm)] at hj
      exact (h.at_ j x hj).keeps hF hg
  · obtain ⟨j, hj⟩ := List.getElem?_of_mem hx
    by_cases hjk : j = k
    · subst hjk
      rw [List.getElem?_set_self hkl, Option.some.injEq] at hj
      subst hj
      exact hn
    · rw [List.getElem?_set_ne (fun e => hjk e.symm)] at hj
      exact (h.kid x (List.mem_of_getElem? hj)).keep fun b hb => hF.block b (hlt b (hmem hj b hb)) (hoth j x hjk hj b hb)
  · obtain ⟨t, cur, hb⟩ := h.blk
    exact ⟨t, cur, hb.keeps hF hg⟩
/-- The number in one's head turned. -/
theorem KidsAt.num {W : World} {g k : Nat} {l : List Kid} {hd : Hd} {s : List Nd} {sv : Value} {f : List Nat} (h : KidsAt W g l) (hk : l[k]? = some (.mk hd s, sv, f)) (hg : g ∉ kidsFp l) (m : Int) :
    KidsAt (W.setCell ⟨g, k * 10 + 6, none⟩ (.int .i64 m)) g (l.set k (.mk { hd with num := m } s, sv, f)) := by
  have hkl : k < l.length := (List.getElem?_eq_some_iff.1 hk).1
  have hmem : ∀ {i : Nat} {z : Kid}, l[i]? = some z → ∀ b ∈ z.2.2, b ∈ kidsFp l := fun hi b hb => List.mem_flatMap.2 ⟨_, List.mem_of_getElem? hi, hb⟩
  obtain ⟨t, cur, hb⟩ := h.blk
  have far : ∀ b ∈ kidsFp l, SameAt W (W.setCell ⟨g, k * 10 + 6, none⟩ (.int .i64 m)) b := fun b hb => Below.heap_setCell W _ _ b (fun e => hg (by simpa [e] using hb))
  refine ⟨fun j x hj => ?_, fun x hx => ?_, ⟨t, _, hb.set _ _⟩⟩
  · have cellOf : ∀ i, (W.setCell ⟨g, k * 10 + 6, none⟩ (.int .i64 m)).cell? ⟨g, i, none⟩ = if k * 10 + 6 = i ∧ i < cur.size then some (.int .i64 m) else W.cell? ⟨g, i, none⟩ := fun i => by
      rw [(hb.set (k * 10 + 6) (.int .i64 m)).cell, hb.cell, Array.getElem?_setIfInBounds]
      by_cases h1 : k * 10 + 6 = i
      · subst h1
        by_cases h2 : k * 10 + 6 < cur.size
        · rw [if_pos rfl, if_pos h2, if_pos ⟨rfl, h2⟩]
        · rw [if_pos rfl, if_neg h2, if_neg (fun hc => h2 hc.2), Array.getElem?_eq_none (by omega)]
      · rw [if_neg h1, if_neg (fun hc => h1 hc.1)]
    by_cases hjk : j = k
    · subst hjk
      rw [List.getElem?_set_self hkl, Option.some.injEq] at hj
      subst hj
      intro i hi
      have h6 := h.at_ j _ hk i hi
      rw [cellOf]
      by_cases hi6 : i = 6
      · subst hi6
        have hsz : j * 10 + 6 < cur.size := by
          rw [hb.cell] at h6
          exact (Array.getElem?_eq_some_iff.1 h6).1
        rw [if_pos ⟨rfl, hsz⟩]
        rfl
      · rw [if_neg (by omega), h6]
        rcases (show i = 0 ∨ i = 1 ∨ i = 2 ∨ i = 3 ∨ i = 4 ∨ i = 5 ∨ i = 7 ∨ i = 8 ∨ i = 9 from by omega) with rfl | rfl | rfl | rfl | rfl | rfl | rfl | rfl | rfl <;> rfl
    · rw [List.getElem?_set_ne (fun e => hjk e.symm)] at hj
      intro i hi
      rw [cellOf, if_neg (by omega)]
      exact h.at_ j x hj i hi
  · obtain ⟨j, hj⟩ := List.getElem?_of_mem hx
    by_cases hjk : j = k
    · subst hjk
      rw [List.getElem?_set_self hkl, Option.some.injEq] at hj
      subst hj
      have := (h.kid _ (List.mem_of_getElem? hk)).keep fun b hb => far b (hmem hk b hb)
      unfold NdFp at this ⊢
      exact this
    · rw [List.getElem?_set_ne (fun e => hjk e.symm)] at hj
      exact (h.kid x (List.mem_of_getElem? hj)).keep fun b hb => far b (hmem hj b hb)
theorem kidsFp_set {l : List Kid} {k : Nat} {n n' : Nd} {sv : Value} {f : List Nat} (hk : l[k]? = some (n, sv, f)) : kidsFp (l.set k (n', sv, f)) = kidsFp l := by
  unfold kidsFp
  rw [List.flatMap_def, List.flatMap_def, List.map_set]
  congr 1
  refine List.ext_getElem? fun j => ?_
  rw [List.getElem?_set]
  by_cases h : k = j
  · subst h
    have hkl : k < l.length := (List.getElem?_eq_some_iff.1 hk).1
    rw [if_pos rfl, if_pos (by simpa using hkl), List.getElem?_map, hk]
    rfl
  · rw [if_neg h]

theorem kidsFp_snd {l l' : List Kid} (h : l.map (·.2) = l'.map (·.2)) : kidsFp l = kidsFp l' := by
  have e : ∀ l : List Kid, kidsFp l = (l.map (·.2)).flatMap (·.2) := fun l => by simp [kidsFp, List.flatMap_map]
  rw [e, e, h]
theorem kid_nodup {l : List Kid} (h : (kidsFp l).Nodup) {x : Kid} (hx : x ∈ l) : x.2.2.Nodup := by
  unfold kidsFp at h
  obtain ⟨a1, a2, rfl⟩ := List.append_of_mem hx
  rw [List.flatMap_append, List.flatMap_cons] at h
  exact (List.nodup_append.1 (List.nodup_append.1 h).2.1).1
theorem kid_sub {l : List Kid} {x : Kid} (hx : x ∈ l) : ∀ b ∈ x.2.2, b ∈ kidsFp l := fun _ hb => List.mem_flatMap.2 ⟨x, hx, hb⟩
/-- A world that keeps all blocks of the list. -/
theorem KidsAt.keeps {W W' : World} {F : Nat → Prop} {g : Nat} {l : List Kid} (h : KidsAt W g l) (hF : Keeps F W W') (hg : ¬ F g) (hlt : ∀ b ∈ kidsFp l, b < W.heap.size ∧ ¬ F b) : KidsAt W' g l := by
  refine ⟨fun j x hj => (h.at_ j x hj).keeps hF hg, fun x hm => (h.kid x hm).keep fun y hy => ?_, ?_⟩
  · have := hlt y (kid_sub hm y hy)
    exact hF.block y this.1 this.2
  · obtain ⟨t, cur, hb⟩ := h.blk
    exact ⟨t, cur, hb.keeps hF hg⟩

end Go.Proofs.YtkcgbdoplhgbmaaDoor

namespace Go.Proofs.YtkcgbdoplhgbmaaDoor
open Go Go.RowKit

set_option maxRecDepth 100000 in
set_option maxHeartbeats 8000000 in
theorem copyNode_any : ∀ (n : Nd) (sv : Value) (w : World), NdOk w n sv → smallN n →
    Calls Tryd.prog 15 #[nodeV n.h sv] w (RetNd w n) := by
  refine Nd.ind fun hd subs ih sv w hn hsm => ?_
  obtain ⟨A, c, rfl⟩ := hn.shape
  obtain ⟨hlen, hsm⟩ := hsm
  have IH := Lib.hid (fun n hm sv w hn => ih n hm sv w hn (smallL_mem hsm n hm))
  have HN := Lib.hid hn
  clear ih hsm hn
  simp only [Nd.h, Nd.subs] at *
  go_enter Tryd.func15, Tryd.ntmps15
  go_upto_region 1 with (first
    | (refine wpl_boxNd rfl _ rfl hd _ rfl ?_; intro b w1 hb hx1 eb sb)
    | (refine wpl_allocNd rfl rfl ?_; intro z w2 hz hx2 ez sz))
  have hx12 := hx1.trans hx2
  have hb2 := hb.ext hx2
  have c5 : w2.cell? ⟨b, 5, none⟩ = some (.slice A subs.length c) := hb2.cell 5
  have hbz : b < z := by omega
  have hwz : w.heap.size ≤ z := by omega
  have hwb : w.heap.size ≤ b := eb
  clear hb hx1 hx2 eb sb
  have hsz12 := hx12.size
  have hL0 : LstFp w2 w2.heap.size 27 (.slice none 0 0) [] := LstFp.nil _ _ _
  have hx22 : Ext w2 w2 := Ext.refl w2
  go_wp2
  go_loopw [3, 9] (fun v i wr => ∃ (k : Nat) (l : List Kid), k ≤ subs.length ∧ i = .int .i64 k ∧ l.map (·.1) = subs.take k ∧ LstFp wr w2.heap.size 27 v l ∧ Ext w2 wr) (fun _ i _ => subs.length - (intOf i).toNat)
  case atStart => exact ⟨0, [], Nat.zero_le _, rfl, rfl, hL0, hx22⟩
  case round =>
    clear hL0 hx22
    obtain ⟨k, l, hk, rfl, hl, hL, hx⟩ := hrel
    have HL := Lib.hid hl
    clear hl
    by_cases hlt : k < subs.length
    · obtain ⟨g0, o0, sv, rfl, hat, hok⟩ := HN.out.get k hlt
      have hxw := hx12.trans hx
      replace hat := hat.ext hxw
      have IHk := Lib.hid (fun w' (hw' : Ext wr w') => IH.out subs[k] (List.getElem_mem hlt) sv w' (NdOk.ext (hxw.trans hw') _ _ hok))
      have HM := Lib.hid (show (l.map (·.1)) ++ [subs[k]] = subs.take (k + 1) by rw [HL.out, take_snoc subs k hlt])
      have hll : l.length = k := by have := congrArg List.length HL.out; simp at this; omega
      have hll2 : l.length ≤ 1000000000 := by omega
      clear IH HN HL hll
      have hsh := hok.sl
      generalize subs[k] = nk at *
      have d1 : (k : Int) < (subs.length : Int) := by omega
      go_wp2_with (first
        | (refine wpl_loadNd rfl _ rfl g0 (o0 + k * 10) nk.h sv rfl hat ?_)
        | (refine wpl_allocNd rfl rfl ?_; intro s w4 hs hx4 es ss)
        | (refine wpl_storeNd rfl _ _ rfl rfl s nk.h _ sv _ rfl rfl hsh hs ?_; intro w5 hs5 hk5; have hx5 := hx4.keep1 hk5 es)
        | (refine wpl_loadNd rfl _ rfl s 0 nk.h sv rfl hs5.nd ?_)
        | (go_at_call 15; refine (IHk.out _ hx5).mono ?_; rintro e w6 ⟨sv6, rfl, hn6, hx6⟩)
        | (refine wpl_oneNd rfl _ rfl nk.h sv6 rfl ?_; intro g7 w7 hb7 hx7 e7 s7)
        | (refine wpl_appFp rfl _ _ rfl w2.heap.size u3 l nk sv6 g7 1 wr rfl rfl hL ((hx5.trans hx6).trans hx7) hx.size ((hn6.ext hx7).mono hx5.size) hb7 hll2 ?_; intro v8 w8 hL8 hx78 hg8))
      have hx8 : Ext w2 w8 := ext_grown_lst (hx.trans hx78) hL (Nat.le_refl _) hg8
      obtain ⟨f, hL8⟩ := hL8
      clear hL hx hat hs hx4 es ss hs5 hk5 hx5 hn6 hx6 hb7 hx7 hg8 hx78 hok e7 s7 hsh hxw
      go_roundw
      case rel => exact ⟨k + 1, l ++ [(nk, sv6, f)], by omega, by go_num, by simpa using HM.out, hL8, hx8⟩
      case measure => simp [intOf]; omega
    · have hkl : subs.take k = subs := List.take_of_length_le (by omega)
      rw [hkl] at HL
      have hb3 := hb2.ext hx
      have hz3 := hz.ext hx
      have HN2 := Lib.hid (hL.node hd)
      rw [HL.out] at HN2
      have hd1 : ¬ (k : Int) < (subs.length : Int) := by omega
      obtain ⟨A', c', rfl, _⟩ := hL.len
      clear hkl IH HN HL c5 hL
      go_wp2_with (first
        | (refine wpl_storeSubs rfl _ _ rfl rfl b hd _ _ rfl rfl (isSl_mk _ _ _) hb3 ?_; intro w4 hb4 hk4)
        | (refine wpl_loadNd rfl _ rfl b 0 hd _ rfl hb4.nd ?_)
        | (refine wpl_storeNd rfl _ _ rfl rfl z hd _ _ _ rfl rfl (isSl_mk _ _ _) (hz3.keep1 hk4 (by omega)) ?_; intro w5 hz5 hk5))
      have hsz := hx.size
      exact ret_nd rfl rfl rfl hz5 ⟨.slice A' l.length c', rfl, ((HN2.out.keep1 hk4 (by omega)).keep1 hk5 (by omega)).mono (by omega), ((hx12.trans hx).keep1 hk4 (by omega)).keep1 hk5 (by omega)⟩

end Go.Proofs.YtkcgbdoplhgbmaaDoor

namespace Go.Proofs.YtkcgbdoplhgbmaaDoor
open Go Go.RowKit

theorem blk_setCells {g : Nat} {t : TypeId} : ∀ (vs : List Value) (o : Nat) (w : World) (cur : Array Value), Blk w g t cur →
    ∃ cur', Blk (w.setCells g o vs) g t cur' ∧ cur'.size = cur.size ∧ ∀ i, (i < o ∨ o + vs.length ≤ i) → cur'[i]? = cur[i]?
  | [], o, w, cur, h => ⟨cur, h, rfl, fun _ _ => rfl⟩
  | v :: r, o, w, cur, h => by
    obtain ⟨cur', h1, h2, h3⟩ := blk_setCells r (o + 1) _ _ (h.set o v)
    refine ⟨cur', h1, by rw [h2, Array.size_setIfInBounds], fun i hi => ?_⟩
    simp only [List.length_cons] at hi
    rw [h3 i (by omega), Array.getElem?_setIfInBounds_ne (by omega)]
theorem keeps_setCells {g : Nat} : ∀ (vs : List Value) (o : Nat) (w : World), Keeps (· = g) w (w.setCells g o vs)
  | [], _, w => Keeps.refl _ w
  | v :: r, o, w => ((Keeps.refl (· = g) w).setCell (p := ⟨g, o, none⟩) (.inr rfl) v).trans (keeps_setCells r (o + 1) _) (fun _ _ h => h)
section
variable {ops : Array Oper} {rest : List Oper} {o : Oper} {a : Act} {w : World} {Q : Exit → Act → World → Prop}
/-- The store of a whole node into a block known whole. -/
theorem wpl_setNdB (hgd : o.guard = none) (x y : Operand) (ho : o.op = .store 27 x y) (hd : o.dst = none) (g k : Nat) (h : Hd) (sv : Value) (hx : a.eval x = .pointer (some ⟨g, k, none⟩)) (hy : a.eval y = nodeV h sv) (hs : isSl sv)
    (t : TypeId) (cur : Array Value) (hB : Blk w g t cur) (hle : k + 10 ≤ cur.size)
    (hK : ∀ w1, (∃ cur', Blk w1 g t cur' ∧ cur'.size = cur.size ∧ ∀ i, (i < k ∨ k + 10 ≤ i) → cur'[i]? = cur[i]?) → Keeps (· = g) w w1 → wpList Tryd.prog ops Q rest a w1) : wpList Tryd.prog ops Q (o :: rest) a w := by
  have hpa : a.put o.dst undef = a := by rw [hd]; rfl
  rw [← hpa] at hK
  exact wpList_store_mid hgd 27 x y ho g k (nodeA h sv) hx hy (fun i hi => ⟨by rw [hB.cell, Array.getElem?_eq_getElem (by rw [nodeA_size] at hi; omega)]; rfl, hB.frozen _⟩) (info_ndA h sv) (nodeA_one hs) (hK _ (blk_setCells _ k w cur hB) (keeps_setCells _ _ _))
end

set_option maxRecDepth 100000 in
set_option maxHeartbeats 8000000 in
theorem spoil_any : ∀ (n : Nd) (h' : Hd) (sv : Value) (fp : List Nat) (w : World), NdFp w (.mk h' n.subs) sv fp → fp.Nodup → (∀ b ∈ fp, b < w.heap.size) → smallN n →
    Calls Tryd.prog 22 #[nodeV h' sv] w fun r w' => r = .returned (.tuple #[]) ∧ Keeps (· ∈ fp) w w' := by
  refine Nd.ind fun hd subs ih h' sv fp w hn hnd hlt hsm => ?_
  simp only [Nd.subs] at *
  obtain ⟨A, cp, rfl⟩ := hn.ok.shape
  simp only [Nd.subs] at *
  obtain ⟨hlen, hsm⟩ := hsm
  have IH := Lib.hid (fun n hm h' sv fp w a b c => ih n hm h' sv fp w a b c (smallL_mem hsm n hm))
  clear ih hsm
  by_cases h0 : subs = []
  · subst h0
    simp only [List.length_nil] at *
    clear hn IH hnd hlt
    go_enter Tryd.func22, Tryd.ntmps22
    go_upto_region 1 with (refine wpl_boxNd rfl _ rfl h' _ rfl ?_; intro b w1 hb hx1 eb sb)
    have c5 : w1.cell? ⟨b, 5, none⟩ = some (.slice A 0 cp) := hb.cell 5
    go_wp2
    go_loop [6] (fun i => i = .int .i64 0) (fun _ => 0)
    case atStart => rfl
    case round =>
      subst hrel
      go_wp2
      go_end0
      exact ⟨rfl, Keeps.of_ext hx1⟩
  · obtain ⟨g, c', l, he, rfl, hsl, hK⟩ := hn.kids h0
    injection he with e1 e2 e3
    subst e1 e3
    have HS := Lib.hid hsl
    have hll : l.length = subs.length := by rw [HS.out, List.length_map]
    have HLL := Lib.hid hll
    have hgn : g ∉ kidsFp l := (List.nodup_cons.1 hnd).1
    have hkn : (kidsFp l).Nodup := (List.nodup_cons.1 hnd).2
    have hglt : g < w.heap.size := hlt g (by simp)
    have hklt0 := Lib.hid (fun b (hb : b ∈ kidsFp l) => hlt b (by simp [hb]))
    have HN1 := Lib.hid hgn
    have HN2 := Lib.hid hkn
    clear hnd hn hlt hsl hll hgn hkn e2
    obtain ⟨F, hF⟩ : ∃ F : Nat → Prop, F = fun b => b ∈ g :: kidsFp l := ⟨_, rfl⟩
    have HF := Lib.hid hF
    rw [← hF]
    clear hF
    go_enter Tryd.func22, Tryd.ntmps22
    go_upto_region 1 with (refine wpl_boxNd rfl _ rfl h' _ rfl ?_; intro b w1 hb hx1 eb sb)
    have c5 : w1.cell? ⟨b, 5, none⟩ = some (.slice (some ⟨g, 0, none⟩) subs.length cp) := hb.cell 5
    have hK1 : ∀ j x, 0 ≤ j → l[j]? = some x → NdAt w1 g (j * 10) x.1.h x.2.1 ∧ NdFp w1 x.1 x.2.1 x.2.2 := fun j x _ hj => ⟨(hK.at_ j x hj).ext hx1, (hK.kid x (List.mem_of_getElem? hj)).ext hx1 (fun y hy => hklt0.out y (List.mem_flatMap.2 ⟨x, List.mem_of_getElem? hj, hy⟩))⟩
    obtain ⟨t, cur, hB⟩ := hK.blk
    have hcs : subs.length * 10 ≤ cur.size := by
      have hp : 0 < subs.length := List.length_pos_iff.2 h0
      have h1 := hK.at_ (subs.length - 1) _ (List.getElem?_eq_getElem (by rw [HLL.out]; omega)) 9 (by omega)
      rw [hB.cell] at h1
      have h2 := (Array.getElem?_eq_some_iff.1 (h1.trans rfl)).1
      omega
    have HC := Lib.hid (show ∃ cur', Blk w1 g t cur' ∧ cur'.size = cur.size from ⟨cur, hB.ext hx1, rfl⟩)
    have HCS := Lib.hid hcs
    have hx11 : Keeps F w w1 := Keeps.of_ext hx1
    clear hK hB hcs h0
    generalize cur.size = cz at *
    go_wp2
    clear c5
    go_loopw [6] (fun i wr => ∃ (k : Nat), k ≤ subs.length ∧ i = .int .i64 k ∧ (∀ j x, k ≤ j → l[j]? = some x → NdAt wr g (j * 10) x.1.h x.2.1 ∧ NdFp wr x.1 x.2.1 x.2.2) ∧ (∃ cur', Blk wr g t cur' ∧ cur'.size = cz) ∧ Blk wr b 27 (nodeA h' (.slice (some ⟨g, 0, none⟩) subs.length cp)) ∧ Keeps F w wr) (fun i _ => subs.length - (intOf i).toNat)
    case atStart => exact ⟨0, Nat.zero_le _, rfl, hK1, HC.out, hb, hx11⟩
    case round =>
      clear hK1 hx11 hb hx1 HC
      obtain ⟨k, hk, rfl, hK, hB, hb, hx⟩ := hrel
      have HK := Lib.hid hK
      have HB := Lib.hid hB
      clear hK hB
      by_cases hlt : k < subs.length
      · obtain ⟨nk, sv, f, hkl⟩ : ∃ nk sv f, l[k]? = some (nk, sv, f) := by
          rw [List.getElem?_eq_getElem (by rw [HLL.out]; exact hlt)]
          exact ⟨_, _, _, rfl⟩
        have hmem := List.mem_of_getElem? hkl
        have hsub : ∀ y ∈ f, y ∈ kidsFp l := fun y hy => List.mem_flatMap.2 ⟨_, hmem, hy⟩
        have hnm : nk ∈ subs := by rw [HS.out]; exact List.mem_map.2 ⟨_, hmem, rfl⟩
        obtain ⟨hat, hfp⟩ := HK.out k _ (Nat.le_refl _) hkl
        have hfnd : f.Nodup := kid_nodup HN2.out hmem
        have hksz := hx.size
        have hgf : g ∉ f := fun e => HN1.out (hsub g e)
        have IHk := Lib.hid (IH.out nk hnm nk.h sv f wr (by obtain ⟨a, b⟩ := nk; exact hfp) hfnd (fun y hy => Nat.lt_of_lt_of_le (hklt0.out y (hsub y hy)) hksz))
        have HSUB := Lib.hid hsub
        have HGF := Lib.hid hgf
        have HKL := Lib.hid hkl
        clear IH hfp hfnd hnm hmem hsub hgf hkl
        simp only at hat
        have c5 : wr.cell? ⟨b, 5, none⟩ = some (.slice (some ⟨g, 0, none⟩) subs.length cp) := hb.cell 5
        have d1 : (k : Int) < (subs.length : Int) := by omega
        go_upto_region 5 with (first
          | (refine wpl_loadNd rfl _ rfl g (k * 10) nk.h sv rfl hat ?_)
          | (go_at_call 22; refine IHk.out.mono ?_; rintro e w6 ⟨rfl, hk6⟩))
        have hb6 := hb.keeps hk6 (fun e => by have := hklt0.out b (HSUB.out b e); omega)
        obtain ⟨cur6, hB6, hc6⟩ := HB.out
        replace hB6 := hB6.keeps hk6 HGF.out
        clear c5
        have c5 : w6.cell? ⟨b, 5, none⟩ = some (.slice (some ⟨g, 0, none⟩) subs.length cp) := hb6.cell 5
        have hle : k * 10 + 10 ≤ cur6.size := by have := HCS.out; omega
        go_wp2_with (refine wpl_setNdB rfl _ _ rfl rfl g (k * 10) ⟨77, fun _ => false, k, 0, 0, false⟩ (.slice none 0 0) rfl (node_lit _ _ _ _ _ _) (isSl_mk _ _ _) t cur6 hB6 hle ?_; intro w7 hB7 hk7)
        obtain ⟨cur7, hB7, hs7, hg7⟩ := hB7
        have HG7 := Lib.hid hg7
        have HG6 := Lib.hid hc6
        have HG8 := Lib.hid hs7
        have h6 := hk6.size
        have hx7 : Keeps F w w7 := (hx.trans hk6 (fun y _ e => by rw [HF.out]; exact List.mem_cons_of_mem _ (HSUB.out y e))).trans hk7 (fun y _ e => by rw [HF.out, e]; simp)
        have hb7 := hb6.keeps hk7 (by omega)
        clear hg7 hs7 hc6 c5 hb6 hb hx
        go_roundw
        case rel =>
          refine ⟨k + 1, by omega, by go_num, fun j x hj hjx => ?_, ⟨cur7, hB7, by rw [HG8.out, HG6.out]⟩, hb7, hx7⟩
          obtain ⟨h1, h2⟩ := HK.out j x (by omega) hjx
          have hxm := List.mem_of_getElem? hjx
          have hdis := kids_disj HN2.out (show j ≠ k by omega) hjx HKL.out
          refine ⟨fun i hi => ?_, ?_⟩
          · have h3 := (h1.keeps hk6 HGF.out) i hi
            rw [hB6.cell] at h3
            rw [hB7.cell, HG7.out _ (by omega), h3]
          · refine (h2.keep (fun y hy => hk6.block y (Nat.lt_of_lt_of_le (hklt0.out y (List.mem_flatMap.2 ⟨x, hxm, hy⟩)) hksz) (hdis y hy))).keep (fun y hy => hk7.block y (by have := hklt0.out y (List.mem_flatMap.2 ⟨x, hxm, hy⟩); omega) (fun e => ?_))
            exact HN1.out (e ▸ List.mem_flatMap.2 ⟨x, hxm, hy⟩)
        case measure => simp [intOf]; omega
      · have hd1 : ¬ (k : Int) < (subs.length : Int) := by omega
        clear IH HK HB
        go_wp2
        go_end0
        exact ⟨rfl, hx⟩

/-- spoilFirst: on the way down only the tree's own lists turn. -/
def SpF (w : World) (fp : List Nat) (r : Ending) (w' : World) : Prop := r = .returned (.tuple #[]) ∧ Keeps (· ∈ fp) w w'
def SpI (w : World) (fp : List Nat) (k : Nat) (p : Value) (wr : World) : Prop :=
  ∃ (m : Nd) (h' : Hd) (s : Value) (f : List Nat) (g o : Nat), p = .pointer (some ⟨g, o, none⟩) ∧ NdAt wr g o h' s ∧ NdFp wr (.mk h' m.subs) s f ∧ f.Nodup ∧ (∀ b ∈ f, b ∈ fp ∧ b < w.heap.size) ∧ g ∉ f ∧ smallN m ∧ f.length ≤ k ∧ Keeps (· ∈ fp) w wr
end Go.Proofs.YtkcgbdoplhgbmaaDoor
