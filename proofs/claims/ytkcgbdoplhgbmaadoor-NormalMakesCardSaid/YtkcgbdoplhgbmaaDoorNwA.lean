/- normal.Free, trawlref04.Free, normal.nothing, trawlref15.is and nothing, tree.Alt as contracts. Condition: the tree lies in memory, its lists are short. -/
import Derived.Test.YtkcgbdoplhgbmaaDoorNrmQ
import Derived.Test.YtkcgbdoplhgbmaaDoorTree2
import Derived.Test.YtkcgbdoplhgbmaaDoorNodeB
import Derived.Test.YtkcgbdoplhgbmaaDoorText
namespace Go.Proofs.YtkcgbdoplhgbmaaDoor
open Go Go.RowKit

theorem freeL_app : ∀ (a b : List Nd), freeL (a ++ b) = (freeL a && freeL b)
  | [], _ => by simp [freeL]
  | n :: a, b => by
    show freeL (n :: (a ++ b)) = _
    rw [freeL, freeL, freeL_app a b, Bool.and_assoc]
theorem freeL_one (n : Nd) : freeL [n] = freeN n := by simp [freeL]
def nthH (h : Hd) : Bool := decide (h.kind = 2) && zeroS h.set

set_option maxRecDepth 100000 in
set_option maxHeartbeats 2000000 in
theorem nth_any (h : Hd) (sv : Value) (w : World) :
    Calls Tryd.prog 124 #[nodeV h sv] w fun r w' => r = .returned (.bool (nthH h)) ∧ Ext w w' := by
  have heq : ∀ W, (binOp .eql 24 (.agg #[.int .u64 (wd h.set 0 : Int), .int .u64 (wd h.set 1 : Int), .int .u64 (wd h.set 2 : Int), .int .u64 (wd h.set 3 : Int)]) (.agg #[.int .u64 0, .int .u64 0, .int .u64 0, .int .u64 0])).run Tryd.prog W = .ok (.bool (zeroS h.set)) W := fun W => eql_words _ _ _ _ _ _ _ _ W
  have HB := Lib.hid (show nthH h = (decide (h.kind = 2) && zeroS h.set) from rfl)
  generalize nthH h = res at *
  go_enter Tryd.func124, Tryd.ntmps124
  go_upto_region 1 with (refine wpl_boxNd rfl _ rfl h _ rfl ?_; intro b w1 hb hx1 eb sb)
  have c0 : w1.cell? ⟨b, 0, none⟩ = some (.int .i64 h.kind) := hb.cell 0
  have c1 : w1.cell? ⟨b, 1, none⟩ = some (.int .u64 (wd h.set 0 : Int)) := hb.cell 1
  have c2 : w1.cell? ⟨b, 2, none⟩ = some (.int .u64 (wd h.set 1 : Int)) := hb.cell 2
  have c3 : w1.cell? ⟨b, 3, none⟩ = some (.int .u64 (wd h.set 2 : Int)) := hb.cell 3
  have c4 : w1.cell? ⟨b, 4, none⟩ = some (.int .u64 (wd h.set 3 : Int)) := hb.cell 4
  clear hb
  generalize h.kind = kind at *
  generalize zeroS h.set = z at *
  generalize h.set = p at *
  by_cases hk : kind = 2
  · subst hk
    cases z
    all_goals
      go_wp2
      go_ret
      exact ⟨by rw [HB.out]; rfl, hx1⟩
  · have n1 : (kind == 2) = false := by rw [beq_eq_false_iff_ne]; exact hk
    have HK := Lib.hid hk
    clear heq hk
    go_wp2
    go_ret
    exact ⟨by rw [HB.out, decide_eq_false HK.out]; rfl, hx1⟩

set_option maxRecDepth 100000 in
set_option maxHeartbeats 2000000 in
theorem ris_any (h : Hd) (sv : Value) (w : World) :
    Calls Tryd.prog 127 #[nodeV h sv] w fun r w' => r = .returned (.bool (nthH h)) ∧ Ext w w' := by
  have heq : ∀ W, (binOp .eql 24 (.agg #[.int .u64 (wd h.set 0 : Int), .int .u64 (wd h.set 1 : Int), .int .u64 (wd h.set 2 : Int), .int .u64 (wd h.set 3 : Int)]) (.agg #[.int .u64 0, .int .u64 0, .int .u64 0, .int .u64 0])).run Tryd.prog W = .ok (.bool (zeroS h.set)) W := fun W => eql_words _ _ _ _ _ _ _ _ W
  have HB := Lib.hid (show nthH h = (decide (h.kind = 2) && zeroS h.set) from rfl)
  generalize nthH h = res at *
  go_enter Tryd.func127, Tryd.ntmps127
  go_upto_region 1 with (refine wpl_boxNd rfl _ rfl h _ rfl ?_; intro b w1 hb hx1 eb sb)
  have c0 : w1.cell? ⟨b, 0, none⟩ = some (.int .i64 h.kind) := hb.cell 0
  have c1 : w1.cell? ⟨b, 1, none⟩ = some (.int .u64 (wd h.set 0 : Int)) := hb.cell 1
  have c2 : w1.cell? ⟨b, 2, none⟩ = some (.int .u64 (wd h.set 1 : Int)) := hb.cell 2
  have c3 : w1.cell? ⟨b, 3, none⟩ = some (.int .u64 (wd h.set 2 : Int)) := hb.cell 3
  have c4 : w1.cell? ⟨b, 4, none⟩ = some (.int .u64 (wd h.set 3 : Int)) := hb.cell 4
  clear hb
  generalize h.kind = kind at *
  generalize zeroS h.set = z at *
  generalize h.set = p at *
  by_cases hk : kind = 2
  · subst hk
    cases z
    all_goals
      go_wp2
      go_ret
      exact ⟨by rw [HB.out]; rfl, hx1⟩
  · have n1 : (kind == 2) = false := by rw [beq_eq_false_iff_ne]; exact hk
    have HK := Lib.hid hk
    clear heq hk
    go_wp2
    go_ret
    exact ⟨by rw [HB.out, decide_eq_false HK.out]; rfl, hx1⟩

set_option maxRecDepth 100000 in
set_option maxHeartbeats 2000000 in
theorem rnothing_any (w : World) : Calls Tryd.prog 128 #[] w (RetB w (.mk (hdV 2) [])) := by
  go_enter Tryd.func128, Tryd.ntmps128
  go_wp2_with (first
    | (refine wpl_allocNd rfl rfl ?_; intro z w2 hz hx2 ez sz)
    | (refine wpl_storeNd rfl _ _ rfl rfl z (hdV 2) _ (.slice none 0 0) _ rfl (node_lit _ _ _ _ _ _) (isSl_mk _ _ _) hz ?_; intro w5 hz5 hk5))
  exact ret_nd rfl rfl rfl hz5 ⟨_, rfl, NdB.nil _ _ _ _ _, hx2.keep1 hk5 ez⟩

set_option maxRecDepth 100000 in
set_option maxHeartbeats 4000000 in
theorem free_any : ∀ (n : Nd) (sv : Value) (w : World), NdOk w n sv → smallN n →
    Calls Tryd.prog 20 #[nodeV n.h sv] w fun r w' => r = .returned (.bool (freeN n)) ∧ Ext w w' := by
  refine Nd.ind fun hd subs ih sv w hn hsm => ?_
  obtain ⟨A, c, rfl⟩ := hn.shape
  obtain ⟨hlen, hsm⟩ := hsm
  have IH := Lib.hid (fun n hm sv w hn => ih n hm sv w hn (smallL_mem hsm n hm))
  have HN := Lib.hid hn
  have HP := Lib.hid (by rw [freeN] : freeN (.mk hd subs) = (!decide (hd.kind = 7) && freeL subs))
  clear ih hsm hn
  generalize freeN (.mk hd subs) = res at *
  simp only [Nd.h, Nd.subs] at *
  go_enter Tryd.func20, Tryd.ntmps20
  go_upto_region 1 with (refine wpl_boxNd rfl _ rfl hd _ rfl ?_; intro b w1 hb hx1 eb sb)
  have c0 : w1.cell? ⟨b, 0, none⟩ = some (.int .i64 hd.kind) := hb.cell 0
  have c5 : w1.cell? ⟨b, 5, none⟩ = some (.slice A subs.length c) := hb.cell 5
  clear hb
  generalize hd.kind = kind at *
  by_cases k7 : kind = 7
  · subst k7
    clear IH HN c5
    go_wp2
    go_ret
    exact ⟨by rw [HP.out]; rfl, hx1⟩
  have n1 : (kind == 7) = false := by rw [beq_eq_false_iff_ne]; exact k7
  have HP2 := Lib.hid (show res = freeL subs by rw [HP.out, decide_eq_false k7]; rfl)
  clear HP k7
  have hx11 : Ext w1 w1 := Ext.refl w1
  go_wp2
  go_loopw [11] (fun i wr => ∃ k : Nat, k ≤ subs.length ∧ i = .int .i64 k ∧ freeL (subs.take k) = true ∧ Ext w1 wr) (fun i _ => subs.length - (intOf i).toNat)
  case atStart => exact ⟨0, Nat.zero_le _, rfl, by rw [List.take_zero, freeL], hx11⟩
  case round =>
    clear hx11
    obtain ⟨k, hk, rfl, hfl, hx⟩ := hrel
    have HL := Lib.hid hfl
    clear hfl
    by_cases hlt : k < subs.length
    · obtain ⟨g0, o0, sv, rfl, hat, hok⟩ := HN.out.get k hlt
      have hxw := hx1.trans hx
      replace hat := hat.ext hxw
      have HST := Lib.hid (show freeL (subs.take (k + 1)) = freeN subs[k] by rw [take_snoc subs k hlt, freeL_app, HL.out, freeL_one, Bool.true_and])
      have HEN := Lib.hid (show freeN subs[k] = false → freeL subs = false from fun h => by rw [← List.take_append_drop (k + 1) subs, freeL_app, HST.out, h, Bool.false_and])
      have IHk := Lib.hid (fun w' (hw' : Ext wr w') => IH.out subs[k] (List.getElem_mem hlt) sv w' (NdOk.ext (hxw.trans hw') _ _ hok))
      have hsh := hok.sl
      clear IH HN HL hok
      generalize freeN subs[k] = pk at *
      generalize subs[k] = nk at *
      have d1 : (k : Int) < (subs.length : Int) := by omega
      cases pk
      all_goals
        go_wp2_with (first
          | (refine wpl_loadNd rfl _ rfl g0 (o0 + k * 10) nk.h sv rfl hat ?_)
          | (refine wpl_allocNd rfl rfl ?_; intro s w4 hs hx4 es ss)
          | (refine wpl_storeNd rfl _ _ rfl rfl s nk.h _ sv _ rfl rfl hsh hs ?_; intro w5 hs5 hk5; have hx5 := hx4.keep1 hk5 es)
          | (refine wpl_loadNd rfl _ rfl s 0 nk.h sv rfl hs5.nd ?_)
          | (go_at_call 20; refine (IHk.out _ hx5).mono ?_; rintro e w6 ⟨rfl, hx6⟩))
      · go_ret
        exact ⟨by rw [HP2.out, HEN.out trivial]; rfl, hxw.trans (hx5.trans hx6)⟩
      · go_roundw
        case rel => exact ⟨k + 1, by omega, by go_num, HST.out, hx.trans (hx5.trans hx6)⟩
        case measure => simp [intOf]; omega
    · have hkl : subs.take k = subs := List.take_of_length_le (by omega)
      rw [hkl] at HL
      have hd1 : ¬ (k : Int) < (subs.length : Int) := by omega
      clear IH HN hkl
      go_wp2
      go_ret
      exact ⟨by rw [HP2.out, HL.out]; rfl, hx1.trans hx⟩

set_option maxRecDepth 100000 in
set_option maxHeartbeats 4000000 in
theorem rfree_any : ∀ (n : Nd) (sv : Value) (w : World), NdOk w n sv → smallN n →
    Calls Tryd.prog 21 #[nodeV n.h sv] w fun r w' => r = .returned (.bool (freeN n)) ∧ Ext w w' := by
  refine Nd.ind fun hd subs ih sv w hn hsm => ?_
  obtain ⟨A, c, rfl⟩ := hn.shape
  obtain ⟨hlen, hsm⟩ := hsm
  have IH := Lib.hid (fun n hm sv w hn => ih n hm sv w hn (smallL_mem hsm n hm))
  have HN := Lib.hid hn
  have HP := Lib.hid (by rw [freeN] : freeN (.mk hd subs) = (!decide (hd.kind = 7) && freeL subs))
  clear ih hsm hn
  generalize freeN (.mk hd subs) = res at *
  simp only [Nd.h, Nd.subs] at *
  go_enter Tryd.func21, Tryd.ntmps21
  go_upto_region 1 with (refine wpl_boxNd rfl _ rfl hd _ rfl ?_; intro b w1 hb hx1 eb sb)
  have c0 : w1.cell? ⟨b, 0, none⟩ = some (.int .i64 hd.kind) := hb.cell 0
  have c5 : w1.cell? ⟨b, 5, none⟩ = some (.slice A subs.length c) := hb.cell 5
  clear hb
  generalize hd.kind = kind at *
  by_cases k7 : kind = 7
  · subst k7
    clear IH HN c5
    go_wp2
    go_ret
    exact ⟨by rw [HP.out]; rfl, hx1⟩
  have n1 : (kind == 7) = false := by rw [beq_eq_false_iff_ne]; exact k7
  have HP2 := Lib.hid (show res = freeL subs by rw [HP.out, decide_eq_false k7]; rfl)
  clear HP k7
  have hx11 : Ext w1 w1 := Ext.refl w1
  go_wp2
  go_loopw [3] (fun i wr => ∃ k : Nat, k ≤ subs.length ∧ i = .int .i64 k ∧ freeL (subs.take k) = true ∧ Ext w1 wr) (fun i _ => subs.length - (intOf i).toNat)
  case atStart => exact ⟨0, Nat.zero_le _, rfl, by rw [List.take_zero, freeL], hx11⟩
  case round =>
    clear hx11
    obtain ⟨k, hk, rfl, hfl, hx⟩ := hrel
    have HL := Lib.hid hfl
    clear hfl
    replace c5 := hx.cell c5
    by_cases hlt : k < subs.length
    · obtain ⟨g0, o0, sv, rfl, hat, hok⟩ := HN.out.get k hlt
      have hxw := hx1.trans hx
      replace hat := hat.ext hxw
      have HST := Lib.hid (show freeL (subs.take (k + 1)) = freeN subs[k] by rw [take_snoc subs k hlt, freeL_app, HL.out, freeL_one, Bool.true_and])
      have HEN := Lib.hid (show freeN subs[k] = false → freeL subs = false from fun h => by rw [← List.take_append_drop (k + 1) subs, freeL_app, HST.out, h, Bool.false_and])
      have IHk := Lib.hid (IH.out subs[k] (List.getElem_mem hlt) sv wr (NdOk.ext hxw _ _ hok))
      clear IH HN HL hok
      generalize freeN subs[k] = pk at *
      generalize subs[k] = nk at *
      have d1 : (k : Int) < (subs.length : Int) := by omega
      cases pk
      all_goals
        go_wp2_with (first
          | (refine wpl_loadNd rfl _ rfl g0 (o0 + k * 10) nk.h sv rfl hat ?_)
          | (go_at_call 21; refine IHk.out.mono ?_; rintro e w6 ⟨rfl, hx6⟩))
      · go_ret
        exact ⟨by rw [HP2.out, HEN.out trivial]; rfl, hxw.trans hx6⟩
      · go_roundw
        case rel => exact ⟨k + 1, by omega, by go_num, HST.out, hx.trans hx6⟩
        case measure => simp [intOf]; omega
    · have hkl : subs.take k = subs := List.take_of_length_le (by omega)
      rw [hkl] at HL
      have hd1 : ¬ (k : Int) < (subs.length : Int) := by omega
      clear IH HN hkl
      go_wp2
      go_ret
      exact ⟨by rw [HP2.out, HL.out]; rfl, hx1.trans hx⟩

set_option maxRecDepth 100000 in
set_option maxHeartbeats 4000000 in
theorem alt_any (ns : List Nd) (lv : Value) (w : World) (hn : NdOk w (.mk (hdV 0) ns) lv) (hsm : smallN (.mk (hdV 0) ns)) :
    Calls Tryd.prog 126 #[lv] w (RetNd w (altN ns)) := by
  have HCs := Lib.hid (fun W (hW : Ext w W) => copies_any ns lv W (NdOk.ext hW _ _ hn) hsm)
  have HBy := Lib.hid (fun W => (by
    have := bytes_any noS W
    have e : ∀ i, wd noS i = 0 := fun i => wd_none i
    simp only [setV, u64v, e] at this
    exact this : Calls Tryd.prog 81 #[.agg #[.int .u64 0, .int .u64 0, .int .u64 0, .int .u64 0]] W (RetNd W (.mk (hdV 2) []))))
  obtain ⟨A, c, rfl⟩ := hn.shape
  obtain ⟨hlen, hsm⟩ := hsm
  have HC := Lib.hid (fun n (hm : n ∈ ns) sv w hn => copy_any n sv w hn (smallL_mem hsm n hm))
  have HN := Lib.hid hn
  clear hsm hn
  simp only [Nd.subs] at *
  go_enter Tryd.func126, Tryd.ntmps126
  go_upto_region 1 with (refine wpl_allocNd rfl rfl ?_; intro z w2 hz hx2 ez sz)
  match ns, HCs, HC, HN, hlen with
  | [], HCs, HC, HN, hlen =>
    simp only [List.length_nil] at *
    clear HCs HC HN
    go_wp2_with (first
      | (go_at_call 81; refine (HBy.out _).mono ?_; rintro e w6 ⟨sv6, rfl, hn6, hx6⟩)
      | (refine wpl_storeNd rfl _ _ rfl rfl z (hdV 2) _ sv6 _ rfl rfl hn6.ok.sl (hz.ext hx6) ?_; intro w5 hz5 hk5))
    have h2 := hx2.size
    exact ret_nd rfl rfl rfl hz5 ⟨_, rfl, (hn6.keep1 hk5 sz).mono h2, (hx2.trans hx6).keep1 hk5 ez⟩
  | [x], HCs, HC, HN, hlen =>
    obtain ⟨g0, o0, sv, rfl, hat, hok⟩ := HN.out.get 0 (by simp)
    have H1 := Lib.hid (HC.out x (by simp) sv w2 (NdOk.ext hx2 _ _ hok))
    simp only [List.getElem_cons_zero, Nat.zero_mul, Nat.add_zero] at hat hok
    replace hat := hat.ext hx2
    simp only [List.length_cons, List.length_nil] at *
    clear HCs HC HN HBy
    go_wp2_with (first
      | (refine wpl_loadNd rfl _ rfl g0 o0 x.h sv rfl hat ?_)
      | (go_at_call 59; refine H1.out.mono ?_; rintro e w6 ⟨sv6, rfl, hn6, hx6⟩)
      | (refine wpl_storeNd rfl _ _ rfl rfl z x.h _ sv6 _ rfl rfl hn6.ok.sl (hz.ext hx6) ?_; intro w5 hz5 hk5))
    have h2 := hx2.size
    exact ret_nd rfl rfl rfl hz5 ⟨_, rfl, (hn6.keep1 hk5 sz).mono h2, (hx2.trans hx6).keep1 hk5 ez⟩
  | x :: y :: r, HCs, HC, HN, hlen =>
    have d0 : 2 ≤ (x :: y :: r).length := by simp
    have H1 := Lib.hid (HCs.out w2 hx2)
    clear HCs HC HN HBy
    have hseq : altN (x :: y :: r) = .mk (hdV 6) (x :: y :: r) := rfl
    have HQ := Lib.hid hseq
    clear hseq
    generalize hL : (x :: y :: r).length = L at *
    clear hL
    generalize x :: y :: r = ns at *
    have d1 : ((L : Int) == 0) = false := by rw [beq_eq_false_iff_ne]; omega
    have d2 : ((L : Int) == 1) = false := by rw [beq_eq_false_iff_ne]; omega
    have d3 : ¬ L = 0 := by omega
    have d4 : ¬ L = 1 := by omega
    go_wp2_with (first
      | (go_at_call 104; refine H1.out.mono ?_; rintro e w6 ⟨sv6, rfl, hn6, hx6⟩; obtain ⟨A6, n6, c6, rfl⟩ := hn6.ok.sl)
      | (refine wpl_storeNd rfl _ _ rfl rfl z (hdV 6) _ _ _ rfl (node_lit _ _ _ _ _ _) (isSl_mk _ _ _) (hz.ext hx6) ?_; intro w5 hz5 hk5))
    have h2 := hx2.size
    exact ret_nd rfl rfl rfl hz5 ⟨.slice A6 n6 c6, by rw [HQ.out]; rfl, by rw [HQ.out]; exact ((hn6.head (h' := hdV 6)).keep1 hk5 sz).mono h2, (hx2.trans hx6).keep1 hk5 ez⟩

end Go.Proofs.YtkcgbdoplhgbmaaDoor
