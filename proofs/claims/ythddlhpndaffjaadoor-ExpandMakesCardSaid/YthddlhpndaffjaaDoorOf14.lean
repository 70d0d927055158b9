/- trawlref14.Of at a repeat, its own call given. Condition: the tree lies in memory, its lists are short, it is in form. trawlref14.Of as a contract: a tree in form written out. Condition: the tree lies in memory, its lists are short, it is in form. -/
import Derived.Test.YthddlhpndaffjaaDoorOpt14
import Derived.Test.YthddlhpndaffjaaDoorMid
import Derived.Test.YthddlhpndaffjaaDoorNodeS
namespace Go.Proofs.YthddlhpndaffjaaDoor
open Go Go.RowKit

theorem seqN_two : ∀ {l : List Nd}, 2 ≤ l.length → seqN l = .mk (hdV 5) l
  | [], h => by simp at h
  | [_], h => by simp at h
  | _ :: _ :: _, _ => rfl
theorem nodeV_zero {h : Hd} (x : Nd) (sv : Value) (hk : h.kind = 8) (hz : zeroS h.set = true) (hn : h.num = 0) (hm : h.min = 0) : nodeV (optN h.max h.bare x).h sv = nodeV h sv := by
  obtain ⟨kind, set, num, mn, mx, bare⟩ := h
  simp only at hk hn hm
  subst hk hn hm
  simp only [zeroS, decide_eq_true_eq] at hz
  unfold nodeV optN
  simp only [Nd.h, hz.1, hz.2.1, hz.2.2.1, hz.2.2.2]
  rfl
theorem formed_zero {h : Hd} {l : Nat} (hf : formedB h l = true) (hk : h.kind = 8) : zeroS h.set = true ∧ h.num = 0 := by
  unfold formedB at hf
  rw [if_neg (by omega), if_neg (by omega), if_neg (by omega), if_neg (by omega), if_pos hk] at hf
  simp only [Bool.and_eq_true, decide_eq_true_eq] at hf
  exact ⟨hf.1.1.1.1.1.1, hf.1.1.1.1.1.2⟩
theorem expL_app : ∀ (a b : List Nd), expL (a ++ b) = expL a ++ expL b := fun a b => by rw [expL_map, expL_map, expL_map, List.map_append]
theorem expL_one (n : Nd) : expL [n] = [expN n] := by rw [expL, expL]

set_option maxRecDepth 100000 in
set_option maxHeartbeats 8000000 in
theorem of14_rep (hd : Hd) (x : Nd) (A : Option Addr) (c : Nat) (w : World) (hn : NdOk w (.mk hd [x]) (.slice A 1 c)) (hk8 : hd.kind = 8) (hrep : 0 ≤ hd.min ∧ hd.min ≤ 255 ∧ (hd.max = -1 ∨ (hd.min ≤ hd.max ∧ hd.max ≤ 255))) (hzer : zeroS hd.set = true ∧ hd.num = 0)
    (y : Nd) (rec : ∀ svx W, Ext w W → NdOk W x svx → Calls Tryd.prog 55 #[nodeV x.h svx] W (RetB W y)) :
    Calls Tryd.prog 55 #[nodeV hd (.slice A 1 c)] w (RetB w (repN hd y)) := by
  have HN := Lib.hid hn
  have HRec := Lib.hid rec
  obtain ⟨hz0, hnum⟩ := hzer
  obtain ⟨r1, r2, r3⟩ := hrep
  have HV := Lib.hid (fun (hm : hd.min = 0) y sv' => nodeV_zero y sv' hk8 hz0 hnum hm)
  have HR := Lib.hid (show repN hd y = if hd.max = 0 then .mk (hdV 1) [] else if hd.min = 0 ∧ (hd.max = 1 ∨ hd.max = -1) then .mk hd [y] else seqN (repL hd y) from rfl)
  clear hn rec hz0 hnum
  generalize repN hd y = res at *
  go_enter Tryd.func55, Tryd.ntmps55
  go_upto_region 1 with (first
    | (refine wpl_boxNd rfl _ rfl hd _ rfl ?_; intro b w1 hb hx1 eb sb)
    | (refine wpl_allocNd rfl rfl ?_; intro z w2 hz hx2 ez sz))
  have hx12 := hx1.trans hx2
  have hb2 := hb.ext hx2
  have c0 : w2.cell? ⟨b, 0, none⟩ = some (.int .i64 hd.kind) := hb2.cell 0
  have c5 : w2.cell? ⟨b, 5, none⟩ = some (.slice A 1 c) := hb2.cell 5
  have hbz : b < z := by omega
  have hwz : w.heap.size ≤ z := by omega
  have hwb : w.heap.size ≤ b := eb
  have hb2s := hb2.lt
  clear hb hx1 hx2 eb ez
  have hsz12 := hx12.size
  obtain ⟨g0, o0, svx, rfl, hat, hok⟩ := HN.out.get 0 (by simp)
  simp only [List.getElem_cons_zero, Nat.zero_mul, Nat.add_zero] at hat hok
  have IHx := Lib.hid (HRec.out svx w2 hx12 (hok.ext hx12))
  replace hat := hat.ext hx12
  have c7 : w2.cell? ⟨b, 7, none⟩ = some (.int .i64 hd.min) := hb2.cell 7
  have c8 : w2.cell? ⟨b, 8, none⟩ = some (.int .i64 hd.max) := hb2.cell 8
  have c9 : w2.cell? ⟨b, 9, none⟩ = some (.bool hd.bare) := hb2.cell 9
  rw [hk8] at c0
  clear HRec HN hk8 hok hb2
  by_cases hm0 : hd.max = 0
  · have HR2 := Lib.hid (HR.out.trans (if_pos hm0))
    rw [hm0] at c8
    clear hm0 HR HV IHx c5 c7 c9 r1 r2 r3 hat
    go_wp2_with (refine wpl_storeLit rfl _ _ rfl rfl z _ 1 0 0 0 false (.slice none 0 0) _ rfl rfl (isSl_mk _ _ _) hz ?_; intro w7 hz7 hk7)
    exact ret_nd rfl rfl rfl hz7 ⟨_, by rw [HR2.out]; rfl, by rw [HR2.out]; exact NdB.nil _ _ _ _ _, hx12.keep1 hk7 hwz⟩
  have HR2 := Lib.hid (HR.out.trans (if_neg hm0))
  have n8 : (hd.max == 0) = false := by simpa using hm0
  clear HR
  go_upto_region 12 with (first
    | (refine wpl_loadNd rfl _ rfl g0 o0 x.h svx rfl hat ?_)
    | (go_at_call 55; refine IHx.out.mono ?_; rintro e w3 ⟨sv3, rfl, hn3, hx3⟩)
    | (refine wpl_allocNd rfl rfl ?_; intro p w4 hp hx4 ep sp)
    | (refine wpl_storeNd rfl _ _ rfl rfl p y.h _ sv3 _ rfl rfl hn3.ok.sl hp ?_; intro w5 hp5 hk5; have hx5 := hx4.keep1 hk5 ep))
  have hx25 := hx3.trans hx5
  replace c7 := hx25.cell c7
  replace c8 := hx25.cell c8
  replace c9 := hx25.cell c9
  replace hz := hz.ext hx25
  have hn5 := Lib.hid (hn3.ext hx5)
  have hxw := hx12.trans hx25
  have h5 := hx25.size
  have hz52 : z < w5.heap.size := by omega
  have hsl3 := hn3.ok.sl
  clear hx3 hx4 hx5 hx25 hn3 hp hk5 ep sp IHx hat c5 c0 n8
  simp only [Act.put, List.setIfInBounds_toArray, List.set_cons_succ, List.set_cons_zero]
  by_cases h11 : hd.min = 1 ∧ hd.max = 1
  · have HR3 := Lib.hid (show res = y by
      rw [HR2.out, if_neg (by omega)]
      simp [repL, h11.1, h11.2, optsL, seqN])
    rw [h11.1] at c7
    rw [h11.2] at c8
    clear HR2 HV hm0 h11 r1 r2 r3
    go_wp2_with (first
      | (refine wpl_loadNd rfl _ rfl p 0 y.h sv3 rfl hp5.nd ?_)
      | (refine wpl_storeNd rfl _ _ rfl rfl z y.h _ sv3 _ rfl rfl hsl3 hz ?_; intro w7 hz7 hk7))
    exact ret_nd rfl rfl rfl hz7 ⟨sv3, by rw [HR3.out], by rw [HR3.out]; exact (hn5.out.keep1 hk7 (by omega)).mono (by omega), hxw.keep1 hk7 hwz⟩
  by_cases h01 : hd.min = 0 ∧ (hd.max = 1 ∨ hd.max = -1)
  · have HR3 := Lib.hid (HR2.out.trans (if_pos h01))
    have HO := Lib.hid (opt14_any y sv3 hd.max hd.bare w5 _ hn5.out (fun b hb => hb.2))
    have HV2 := Lib.hid (HV.out h01.1 y)
    obtain ⟨h0, h1⟩ := h01
    rw [h0] at c7
    clear HR2 HV hm0 h11 r1 r2 r3 hn5
    rcases h1 with h1 | h1
    · rw [h1] at c8 HO HV2
      clear h0 h1
      go_upto_region 15 with fail
      go_wp2_with (first
        | (refine wpl_loadNd rfl _ rfl p 0 y.h sv3 rfl hp5.nd ?_)
        | (go_at_call 79; refine HO.out.mono ?_; rintro e w6 ⟨sv6, rfl, hn6, hx6⟩)
        | (refine wpl_storeNd rfl _ _ rfl rfl z (optN (1) hd.bare y).h _ sv6 _ rfl rfl hn6.ok.sl (hz.ext hx6) ?_; intro w7 hz7 hk7))
      have h6 := hx6.size
      have hn7 : NdB w2.heap.size w6 _ sv6 := NdIn.keep (fun b hb => ⟨rfl, by rcases hb with hb | hb <;> omega⟩) hn6
      exact ret_nd rfl rfl rfl hz7 ⟨sv6, by rw [HR3.out, HV2.out]; rfl, by rw [HR3.out]; exact ((hn7.keep1 hk7 (by omega)).mono (by omega)).head, (hxw.trans hx6).keep1 hk7 hwz⟩
    · rw [h1] at c8 HO HV2
      clear h0 h1
      go_upto_region 15 with fail
      go_wp2_with (first
        | (refine wpl_loadNd rfl _ rfl p 0 y.h sv3 rfl hp5.nd ?_)
        | (go_at_call 79; refine HO.out.mono ?_; rintro e w6 ⟨sv6, rfl, hn6, hx6⟩)
        | (refine wpl_storeNd rfl _ _ rfl rfl z (optN (-1) hd.bare y).h _ sv6 _ rfl rfl hn6.ok.sl (hz.ext hx6) ?_; intro w7 hz7 hk7))
      have h6 := hx6.size
      have hn7 : NdB w2.heap.size w6 _ sv6 := NdIn.keep (fun b hb => ⟨rfl, by rcases hb with hb | hb <;> omega⟩) hn6
      exact ret_nd rfl rfl rfl hz7 ⟨sv6, by rw [HR3.out, HV2.out]; rfl, by rw [HR3.out]; exact ((hn7.keep1 hk7 (by omega)).mono (by omega)).head, (hxw.trans hx6).keep1 hk7 hwz⟩
  have HR3 := Lib.hid (show res = .mk (hdV 5) (repL hd y) by
    rw [HR2.out, if_neg h01, seqN_two]
    rw [repL_len]
    split <;> omega)
  clear HR2 HV
  have HM := Lib.hid (show repL hd y = List.replicate hd.min.toNat y ++ optsL y (hd.bare || decide (0 < hd.min)) (hd.max - hd.min).toNat ++ (if hd.max = -1 then [optN (-1) true y] else []) from rfl)
  generalize hd.min = mn at *
  generalize hd.max = mx at *
  generalize hd.bare = bare at *
  generalize repL hd y = lst at *
  have hx55 : Ext w5 w5 := Ext.refl _
  go_cut [50] (fun v wx => v = .bool false ∧ w5 = wx)
  case first =>
    clear HR3 HM
    by_cases hm : mn = 1
    · subst hm
      have n1 : (mx == 1) = false := by rw [beq_eq_false_iff_ne]; omega
      go_wp2
      all_goals
        go_meet
        case rel => exact ⟨rfl, rfl⟩
    · have n1 : (mn == 1) = false := by rw [beq_eq_false_iff_ne]; exact hm
      go_wp2
      all_goals
        go_meet
        case rel => exact ⟨rfl, rfl⟩
  obtain ⟨rfl, rfl⟩ := hcut
  go_upto_region 14 with fail
  go_cut [69] (fun v wx => v = .bool false ∧ w5 = wx)
  case first =>
    clear HR3 HM
    by_cases hm : mn = 0
    · subst hm
      have n1 : (mx == 1) = false := by rw [beq_eq_false_iff_ne]; omega
      have n2 : (mx == -1) = false := by rw [beq_eq_false_iff_ne]; omega
      go_wp2
      all_goals
        go_meet
        case rel => exact ⟨rfl, rfl⟩
    · have n1 : (mn == 0) = false := by rw [beq_eq_false_iff_ne]; exact hm
      go_wp2
      all_goals
        go_meet
        case rel => exact ⟨rfl, rfl⟩
  obtain ⟨rfl, rfl⟩ := hcut
  clear h01 h11 hm0
  have hL0 : LstB w5 w5.heap.size w2.heap.size (.slice none 0 0) [] := LstB.nil _ _ _
  go_wp2
  go_loopw [6, 7] (fun v i wr => ∃ (k : Nat) (l : List (Nd × Value)), (k : Int) ≤ mn ∧ i = .int .i64 k ∧ l.map (·.1) = List.replicate k y ∧ LstB wr w5.heap.size w2.heap.size v l ∧ Ext w5 wr) (fun _ i _ => mn.toNat - (intOf i).toNat)
  case atStart => exact ⟨0, [], by omega, rfl, rfl, hL0, hx55⟩
  case round =>
    clear hL0 hx55
    obtain ⟨k, l, hk, rfl, hl, hL, hx⟩ := hrel
    have hll : l.length = k := by have := congrArg List.length hl; simpa using this
    have hll2 : l.length ≤ 1000000000 := by omega
    have HL := Lib.hid hl
    have HK := Lib.hid hll
    clear hl hll
    have c77 := c7
    replace c7 := hx.cell c7
    have k8 := c8
    have k9 := c9
    by_cases hlt : (k : Int) < mn
    · have hfar := Lib.hid (fun W (hW : Ext w5 W) => hn5.out.far (v := u6) hW (fun i hi => (hL.ownB i hi).1))
      go_wp2_with (first
        | (refine wpl_loadNd rfl _ rfl p 0 y.h sv3 rfl (hp5.ext hx).nd ?_)
        | (refine wpl_oneNd rfl _ rfl y.h sv3 rfl ?_; intro g6 w6 hg6 hx6 e6 s6)
        | (refine wpl_appB rfl _ _ rfl w5.heap.size w2.heap.size u6 l y sv3 g6 1 rfl rfl (hL.ext hx6) (hx.trans hx6).size (hfar.out _ (hx.trans hx6)) hg6 hll2 ?_; intro v7 w7 hL7 hg7))
      have hx7 := ext_grown_B (hx.trans hx6) (hL.ext hx6) (Nat.le_refl _) hg7
      clear hfar hL hx hx6 hg6 e6 s6 hg7 c7 k8 k9
      go_roundw
      case rel => exact ⟨k + 1, l ++ [(y, sv3)], by omega, by go_num, by rw [List.map_append, HL.out, List.replicate_succ']; rfl, hL7, hx7⟩
      case measure => simp [intOf]; omega
    · have HKM := Lib.hid (show k = mn.toNat by omega)
      have HMN := Lib.hid (show ((mn.toNat : Nat) : Int) = mn by omega)
      replace c8 := hx.cell c8
      have hLL := hL
      by_cases h1 : mx = -1
      · subst h1
        have HM2 := Lib.hid (show lst = List.replicate mn.toNat y ++ [optN (-1) true y] by
          rw [HM.out, if_pos rfl, show (-1 - mn).toNat = 0 by omega, optsL, List.append_nil])
        have hfar := Lib.hid (fun W (hW : Ext w5 W) => hn5.out.far (v := u6) hW (fun i hi => (hL.ownB i hi).1))
        have HO := Lib.hid (opt14_any y sv3 (-1) true wr _ (hfar.out wr hx) (fun b hb => hb.2.1))
        clear HM r3
        go_upto_region 23 with (first
          | (refine wpl_loadNd rfl _ rfl p 0 y.h sv3 rfl (hp5.ext hx).nd ?_)
          | (go_at_call 79; refine HO.out.mono ?_; rintro e w6 ⟨sv6, rfl, hn6, hx6⟩)
          | (refine wpl_oneNd rfl _ rfl (optN (-1) true y).h sv6 rfl ?_; intro g7 w7 hg7 hx7 e7 s7; have hin := (NdIn.keep (S' := fun b => w2.heap.size ≤ b ∧ Off w6 u6 b) (fun b hb => ⟨rfl, by
              rcases hb with hb | hb
              · exact ⟨hb.1, Nat.lt_of_lt_of_le hb.2.1 hx6.size, hb.2.2⟩
              · exact ⟨by have := hx.size; omega, hb.2, fun e => by have := (hL.ownB b e).2; omega⟩⟩) hn6))
          | (refine wpl_appB rfl _ _ rfl w5.heap.size w2.heap.size u6 l (optN (-1) true y) sv6 g7 1 rfl rfl (hL.ext (hx6.trans hx7)) (by have := hx.size; have := hx6.size; have := hx7.size; omega) (ndIn_ext hin hx7) hg7 hll2 ?_; intro v8 w8 hL8 hg8))
        have hx8 := ext_grown_B ((hx.trans hx6).trans hx7) (hL.ext (hx6.trans hx7)) (Nat.le_refl _) hg8
        replace c7 : w8.cell? ⟨b, 7, none⟩ = some (.int .i64 mn) := hx8.cell c77
        replace c8 : w8.cell? ⟨b, 8, none⟩ = some (.int .i64 (-1)) := hx8.cell k8
        obtain ⟨A8, c8', rfl, _⟩ := hL8.len
        have hnd := hL8.node (by omega) (hdV 5)
        rw [List.map_append, HL.out, HKM.out] at hnd
        have hnd2 := Lib.hid (show NdB w2.heap.size w8 res _ by rw [HR3.out, HM2.out]; exact hnd)
        have hrh : res.h = hdV 5 := by rw [HR3.out]; rfl
        have HRH := Lib.hid hrh
        have hz8 := hz.ext hx8
        have hxw8 := hxw.trans hx8
        clear hfar HO hL hLL hx hx6 hx7 hg7 hg8 hn6 hin e7 s7 hL8 hnd hx8 hrh
        generalize (l ++ [(optN (-1) true y, sv6)]).length = nl at *
        try simp only [Act.put, List.setIfInBounds_toArray, List.set_cons_succ, List.set_cons_zero]
        go_wp2
        go_loopw [6, 8] (fun v i wr => v = .slice A8 nl c8' ∧ i = .int .i64 mn ∧ w8 = wr) (fun _ _ _ => 0)
        case atStart => exact ⟨rfl, rfl, rfl⟩
        case round =>
          obtain ⟨rfl, rfl, rfl⟩ := hrel
          have t1 : ¬ mn < -1 := by omega
          go_wp2_with (refine wpl_storeLit rfl _ _ rfl rfl z _ 5 0 0 0 false (.slice A8 nl c8') _ rfl rfl (isSl_mk _ _ _) hz8 ?_; intro w9 hz9 hk9)
          exact ret_nd rfl rfl rfl hz9 ⟨_, by rw [HRH.out]; rfl, (hnd2.out.keep1 hk9 (by omega)).mono (by omega), hxw8.keep1 hk9 hwz⟩
      · have n1 : (mx == -1) = false := by rw [beq_eq_false_iff_ne]; exact h1
        have HM2 := Lib.hid (show lst = List.replicate mn.toNat y ++ optsL y (bare || decide (0 < mn)) (mx - mn).toNat by
          rw [HM.out, if_neg h1, List.append_nil])
        clear HM
        go_wp2
        go_loopw [6, 8] (fun v i ws => ∃ (m : Nat) (l2 : List (Nd × Value)), m ≤ (mx - mn).toNat ∧ i = .int .i64 (mn + m) ∧ l2.map (·.1) = List.replicate mn.toNat y ++ optsL y (bare || decide (0 < mn)) m ∧ LstB ws w5.heap.size w2.heap.size v l2 ∧ Ext w5 ws) (fun _ i _ => (mx - intOf i).toNat)
        case atStart => exact ⟨0, l, by omega, by simp, by rw [HL.out, optsL, List.append_nil, HKM.out], hLL, hx⟩
        case round =>
          clear hL hLL HL HK hll2 hx HKM hlt hk c8
          obtain ⟨m, l2, hm, rfl, hl2, hL, hx⟩ := hrel
          have hll : l2.length = mn.toNat + m := by have := congrArg List.length hl2; rw [List.length_append, List.length_replicate, optsL_len] at this; simpa using this
          have hll2 : l2.length ≤ 1000000000 := by omega
          have HL := Lib.hid hl2
          clear hl2 hll
          have c8' := hx.cell k8
          have c9' := hx.cell k9
          by_cases hlt : mn + (m : Int) < mx
          · have hfar := Lib.hid (fun W (hW : Ext w5 W) => hn5.out.far (v := u6) hW (fun i hi => (hL.ownB i hi).1))
            have hbb : (if m = 0 then (bare || decide (0 < mn)) else true) = !(decide (mn + (m : Int) = 0) && !bare) := by
              by_cases hm0 : m = 0
              · subst hm0
                rw [if_pos rfl]
                by_cases hn0 : mn = 0
                · subst hn0; cases bare <;> simp
                · have h2 : 0 < mn := by omega
                  simp [hn0, h2]
              · rw [if_neg hm0]
                have h2 : ¬ mn + (m : Int) = 0 := by omega
                simp [h2]
            have HBB := Lib.hid (optsL_snoc y (bare || decide (0 < mn)) m)
            rw [hbb] at HBB
            obtain ⟨bb, hb2⟩ : ∃ bb, bb = !(decide (mn + (m : Int) = 0) && !bare) := ⟨_, rfl⟩
            rw [← hb2] at HBB
            have HB2 := Lib.hid hb2
            have HO := Lib.hid (opt14_any y sv3 1 bb wr _ (hfar.out wr hx) (fun b hb => hb.2.1))
            have q1 : IntKind.i64.wrap (mn + (m : Int) + 1) = mn + (m : Int) + 1 := by rw [IntKind.wrap_i64]; omega
            clear hbb hb2 HM2 HR3
            have hww : Ext wr wr := Ext.refl _
            go_upto_region 26 with fail
            go_cut [9] (fun v wx => v = .bool (!bb) ∧ wr = wx)
            case first =>
              clear HO HBB hfar
              by_cases h2 : mn + (m : Int) = 0
              · have e1 : (mn + (m : Int) == 0) = true := by rw [beq_iff_eq]; exact h2
                have HH := Lib.hid (show (!bare) = !bb by rw [HB2.out]; simp [h2])
                clear h2
                go_wp2
                all_goals
                  go_meet
                  case rel => exact ⟨by rw [HH.out], rfl⟩
              · have e1 : (mn + (m : Int) == 0) = false := by rw [beq_eq_false_iff_ne]; exact h2
                have HH := Lib.hid (show false = !bb by rw [HB2.out]; simp [h2])
                clear h2
                go_wp2
                all_goals
                  go_meet
                  case rel => exact ⟨by rw [← HH.out], rfl⟩
            obtain ⟨rfl, rfl⟩ := hcut
            go_wp2_with (first
              | (refine wpl_loadNd rfl _ rfl p 0 y.h sv3 rfl (hp5.ext hx).nd ?_)
              | (go_at_call 79; refine HO.out.mono ?_; rintro e w6 ⟨sv6, rfl, hn6, hx6⟩)
              | (refine wpl_oneNd rfl _ rfl (optN 1 bb y).h sv6 rfl ?_; intro g7 w7 hg7 hx7 e7 s7; have hin := (NdIn.keep (S' := fun b => w2.heap.size ≤ b ∧ Off w6 u6 b) (fun b hb => ⟨rfl, by
                  rcases hb with hb | hb
                  · exact ⟨hb.1, Nat.lt_of_lt_of_le hb.2.1 hx6.size, hb.2.2⟩
                  · exact ⟨by have := hx.size; omega, hb.2, fun e => by have := (hL.ownB b e).2; omega⟩⟩) hn6))
              | (refine wpl_appB rfl _ _ rfl w5.heap.size w2.heap.size u6 l2 (optN 1 bb y) sv6 g7 1 rfl rfl (hL.ext (hx6.trans hx7)) (by have := hx.size; have := hx6.size; have := hx7.size; omega) (ndIn_ext hin hx7) hg7 hll2 ?_; intro v8 w8 hL8 hg8))
            have hx8 := ext_grown_B ((hx.trans hx6).trans hx7) (hL.ext (hx6.trans hx7)) (Nat.le_refl _) hg8
            clear hfar HO hL hx hx6 hx7 hg7 hg8 hn6 hin e7 s7 c8' c9'
            go_roundw
            case rel => exact ⟨m + 1, l2 ++ [(optN 1 bb y, sv6)], by omega, by congr 1; omega, by rw [HBB.out, List.map_append, HL.out, List.append_assoc]; rfl, hL8, hx8⟩
            case measure => simp [intOf]; omega
          · have HMM := Lib.hid (show m = (mx - mn).toNat by omega)
            obtain ⟨A8, c8'', rfl, _⟩ := hL.len
            have hnd := hL.node (by omega) (hdV 5)
            rw [HL.out, HMM.out] at hnd
            have hnd2 := Lib.hid (show NdB w2.heap.size wr res _ by rw [HR3.out, HM2.out]; exact hnd)
            have HRH := Lib.hid (show res.h = hdV 5 by rw [HR3.out]; rfl)
            have hz8 := hz.ext hx
            clear hL hnd HL HMM HM2 HR3 c9'
            have h8 := hx.size
            clear hm r1 r2 r3 h1 n1 hll2
            go_wp2_with (refine wpl_storeLit rfl _ _ rfl rfl z _ 5 0 0 0 false (.slice A8 l2.length c8'') _ rfl rfl (isSl_mk _ _ _) hz8 ?_; intro w9 hz9 hk9)
            exact ret_nd rfl rfl rfl hz9 ⟨_, by rw [HRH.out]; rfl, (hnd2.out.keep1 hk9 (by omega)).mono (by omega), (hxw.trans hx).keep1 hk9 hwz⟩

end Go.Proofs.YthddlhpndaffjaaDoor

namespace Go.Proofs.YthddlhpndaffjaaDoor
open Go Go.RowKit

set_option maxRecDepth 100000 in
set_option maxHeartbeats 8000000 in
theorem of14_any : ∀ (n : Nd) (sv : Value) (w : World), NdOk w n sv → smallN n → formB n = true →
    Calls Tryd.prog 55 #[nodeV n.h sv] w (RetB w (expN n)) := by
  refine Nd.ind fun hd subs ih sv w hn hsm hfm => ?_
  obtain ⟨A, c, rfl⟩ := hn.shape
  obtain ⟨hlen, hsm⟩ := hsm
  rw [formB, Bool.and_eq_true] at hfm
  obtain ⟨hfd, hfl⟩ := hfm
  have hfmem : ∀ n ∈ subs, formB n = true := fun n hm => by
    obtain ⟨a, b, rfl⟩ := List.append_of_mem hm
    rw [formL_app, formL, Bool.and_eq_true, Bool.and_eq_true] at hfl
    exact hfl.2.1
  have IH := Lib.hid (fun n hm sv w hn => ih n hm sv w hn (smallL_mem hsm n hm) (hfmem n hm))
  have HN := Lib.hid hn
  have HE := Lib.hid (fun hk : hd.kind ≠ 8 => (by rw [expN, if_neg hk] : expN (.mk hd subs) = .mk hd (expL subs)))
  by_cases hk8 : hd.kind = 8
  · obtain ⟨x, rfl⟩ := formed_one hfd hk8
    have he : expN (.mk hd [x]) = repN hd (expN x) := by rw [expN, if_pos hk8, expL, headN]
    rw [he]
    exact of14_rep hd x A c w hn hk8 (formed_rep hfd hk8) (formed_zero hfd hk8) (expN x) (fun svx W _ hx => ih x (by simp) svx W hx (smallL_mem hsm x (by simp)) (hfmem x (by simp)))
  clear ih hsm hn hfl hfmem hfd
  generalize expN (.mk hd subs) = res at *
  simp only [Nd.h, Nd.subs] at *
  go_enter Tryd.func55, Tryd.ntmps55
  go_upto_region 1 with (first
    | (refine wpl_boxNd rfl _ rfl hd _ rfl ?_; intro b w1 hb hx1 eb sb)
    | (refine wpl_allocNd rfl rfl ?_; intro z w2 hz hx2 ez sz))
  have hx12 := hx1.trans hx2
  have hb2 := hb.ext hx2
  have c0 : w2.cell? ⟨b, 0, none⟩ = some (.int .i64 hd.kind) := hb2.cell 0
  have c5 : w2.cell? ⟨b, 5, none⟩ = some (.slice A subs.length c) := hb2.cell 5
  have hbz : b < z := by omega
  have hwz : w.heap.size ≤ z := by omega
  have hwb : w.heap.size ≤ b := eb
  have hb2s := hb2.lt
  clear hb hx1 hx2 eb ez
  have hsz12 := hx12.size
  have HE2 := Lib.hid (HE.out hk8)
  clear HE
  have n1 : (hd.kind != 8) = true := by simpa using hk8
  go_upto_region 4 with (first
    | (refine wpl_loadNd rfl _ rfl b 0 hd _ rfl hb2.nd ?_)
    | (refine wpl_allocNd rfl rfl ?_; intro s w3 hs hx3 es ss)
    | (refine wpl_storeNd rfl _ _ rfl rfl s hd _ _ _ rfl rfl (isSl_mk _ _ _) hs ?_; intro w4 hs4 hk4)
    | (refine wpl_storeSubs rfl _ _ rfl rfl s hd (.slice none 0 0) _ rfl rfl (isSl_mk _ _ _) hs4 ?_; intro w5 hs5 hk5))
  have hx5 := (hx3.keep1 hk4 es).keep1 hk5 es
  have c55 := hx5.cell c5
  have hz2 := hz
  replace hz := hz.ext hx5
  have hxw := hx12.trans hx5
  have hs5l := hs5.lt
  have h25 := hx5.size
  clear hb2 hs hs4 hk4 hk5 hx3 n1 hk8 c0 hz
  have hL0 : LstB w5 w5.heap.size w5.heap.size (.slice none 0 0) [] := LstB.nil _ _ _
  have hx22 : Ext w2 w5 := hx5
  go_wp2
  go_loopw [4] (fun i wr => ∃ (k : Nat) (v : Value) (l : List (Nd × Value)), k ≤ subs.length ∧ i = .int .i64 k ∧ l.map (·.1) = expL (subs.take k) ∧ w5.heap.size ≤ wr.heap.size ∧ LstB wr w5.heap.size w5.heap.size v l ∧ Blk wr s 27 (nodeA hd v) ∧ Ext w2 wr) (fun i _ => subs.length - (intOf i).toNat)
  case atStart => exact ⟨0, _, [], Nat.zero_le _, rfl, by rw [List.take_zero, expL]; rfl, Nat.le_refl _, hL0, hs5, hx22⟩
  case round =>
    clear hL0 hx22 hs5 c55
    obtain ⟨k, v, l, hk, rfl, hl, hwr, hL, hB, hx⟩ := hrel
    have HL := Lib.hid hl
    have hll : l.length = k := by have := congrArg List.length hl; rw [expL_map] at this; simpa [Nat.min_eq_left hk] using this
    have hll2 : l.length ≤ 1000000000 := by omega
    clear hl
    have hxr := hx12.trans hx
    have c5r := hx.cell c5
    by_cases hlt : k < subs.length
    · obtain ⟨g0, o0, sv, rfl, hat, hok⟩ := HN.out.get k hlt
      replace hat := hat.ext hxr
      have IHk := Lib.hid (fun w' (hw' : Ext wr w') => IH.out subs[k] (List.getElem_mem hlt) sv w' (NdOk.ext (hxr.trans hw') _ _ hok))
      have HM := Lib.hid (show (l.map (·.1)) ++ [expN subs[k]] = expL (subs.take (k + 1)) by rw [HL.out, take_snoc subs k hlt, expL_app, expL_one])
      have hsl := hok.sl
      clear IH HN HL hok
      generalize expN subs[k] = ek at *
      generalize subs[k] = nk at *
      have t1 : (k : Int) < (subs.length : Int) := by omega
      have k5 : ∀ W, Ext wr W → W.cell? ⟨s, 5, none⟩ = some v := fun W hW => (hB.ext hW).cell 5
      go_upto_region 7 with fail
      refine wp_region_mid (fun W => Ext wr W) 9 (by kernel_rfl) ?_
      refine wpAnyM_pure (i := 0) rfl (by kernel_rfl) (by kernel_rfl) (by kernel_rfl) (by decide) (fun _ _ _ h => h) (Ext.refl wr).drew rfl (fun W => by go_simp; try rfl) ?_
      refine wpAnyM_take (i := 1) (v := v) [9] rfl (by kernel_rfl) (by kernel_rfl) (by kernel_rfl) (by kernel_rfl) (fun _ _ _ h => h) (Ext.refl wr).drew (yieldsIf_value rfl (fun W hW => by have k5' := k5 W hW; go_simp; try rfl)) ?_
      simp only [Act.put, List.setIfInBounds_toArray]
      refine wpAnyM_pure (i := 2) rfl (by kernel_rfl) (by kernel_rfl) (by kernel_rfl) (by decide) (fun _ _ _ h => h) (Ext.refl wr).drew rfl (fun W => by go_simp; try rfl) ?_
      refine wpAnyM_pure (i := 4) rfl (by kernel_rfl) (by kernel_rfl) (by kernel_rfl) (by decide) (fun _ _ _ h => h) (Ext.refl wr).drew rfl (fun W => by go_simp; try rfl) ?_
      simp only [Act.put]
      have c5d : wr.drew.cell? ⟨b, 5, none⟩ = some (.slice (some ⟨g0, o0, none⟩) subs.length c) := c5r
      refine wpAnyM_step (i := 3) (by kernel_rfl) rfl (by decide) ?_
      go_wp2
      refine stepQ_ok ⟨(Ext.refl wr).drew, ?_⟩
      refine wpAnyM_step (i := 5) (by kernel_rfl) rfl (by decide) ?_
      go_wp2
      refine stepQ_ok ⟨(Ext.refl wr).drew, ?_⟩
      refine wpAnyM_step (i := 6) (by kernel_rfl) rfl (by decide) ?_
      refine wpl_loadNd rfl _ rfl g0 (o0 + k * 10) nk.h sv rfl hat.drew ?_
      refine stepQ_end ⟨(Ext.refl wr).drew, ?_⟩
      simp only [Act.put, List.setIfInBounds_toArray]
      refine wpAnyM_step (i := 7) (by kernel_rfl) rfl (by decide) ?_
      go_wp2_with (go_at_call 55; refine (IHk.out _ (Ext.refl wr).drew).mono ?_; rintro e w6 ⟨sv6, rfl, hn6, hx6⟩)
      have hx6' := (Ext.refl wr).drew.trans hx6
      refine stepQ_ok ⟨hx6', ?_⟩
      refine wpAnyM_step (i := 8) (by kernel_rfl) rfl (by decide) ?_
      refine wpl_oneNd rfl _ rfl ek.h sv6 rfl ?_
      intro g7 w7 hb7 hx7 e7 s7
      have hx7' := hx6'.trans hx7
      refine stepQ_end ⟨hx7', ?_⟩
      simp only [Act.put, List.setIfInBounds_toArray]
      have h67 := hx6'.size
      refine wpAnyM_last3 (t := 10) (u := 11) (by kernel_rfl) rfl (by kernel_rfl) rfl (by kernel_rfl) rfl (by kernel_rfl) ?_
      refine wpl_appB rfl _ _ rfl w5.heap.size w5.heap.size v l ek sv6 g7 1 rfl rfl (hL.ext hx7') (by have := hx7'.size; omega) (ndIn_ext (hn6.near (C := w5.heap.size) hwr (fun i hi => (hL.ownB i hi).2)) hx7) hb7 hll2 ?_
      intro v8 w8 hL8 hg8
      have hs8 : Blk w8 s 27 (nodeA hd v) := grown_keep1 (hB.ext hx7') hg8 (fun e => by have := (hL.ownB s e).1; omega)
      have hx8 : Ext w2 w8 := ext_grown_B (hx.trans hx7') (hL.ext hx7') h25 hg8
      refine stepQ_end ?_
      simp only [Act.put]
      go_wp2
      refine stepQ_ok ?_
      obtain ⟨A8, c8, rfl, _⟩ := hL8.len
      refine wpl_storeSubs rfl _ _ rfl rfl s hd _ _ rfl rfl (isSl_mk _ _ _) hs8 ?_
      intro w9 hs9 hk9
      have hx9 := hx8.keep1 hk9 es
      have hL9 := hL8.keep1 hk9 hs5l hs5l
      have hw9 : w5.heap.size ≤ w9.heap.size := by have := hx7'.size; have := hg8.size; have := hk9.size; omega
      clear hx8 hL8 hs8 hk9 hg8 hx7' hb7 hn6 hx6 hx6' hx7 e7 s7 h67 hL hB hx hat k5 c5r c5d hxr hwr
      go_wp2
      go_roundw
      case rel => exact ⟨k + 1, _, l ++ [(ek, sv6)], by omega, by go_num, by simpa using HM.out, hw9, hL9, hs9, hx9⟩
      case measure => simp [intOf]; omega
    · have hkl : subs.take k = subs := List.take_of_length_le (by omega)
      rw [hkl] at HL
      have t1 : ¬ (k : Int) < (subs.length : Int) := by omega
      have hnd := Lib.hid (hL.node (Nat.le_refl _) hd)
      rw [HL.out, ← HE2.out] at hnd
      have hsl := hnd.out.ok.sl
      have hz9 : Blk wr z 27 _ := hz2.ext hx
      have hhd : res.h = hd := by rw [HE2.out]; rfl
      clear hkl IH HN HL hL
      go_wp2_with (first
        | (refine wpl_loadNd rfl _ rfl s 0 hd v rfl hB.nd ?_)
        | (refine wpl_storeNd rfl _ _ rfl rfl z hd _ v _ rfl rfl hsl hz9 ?_; intro w7 hz7 hk7))
      exact ret_nd rfl rfl rfl hz7 ⟨v, by rw [hhd], ((hnd.out.keep1 hk7 (by omega)).mono (by omega)), (hx12.trans hx).keep1 hk7 hwz⟩

end Go.Proofs.YthddlhpndaffjaaDoor
