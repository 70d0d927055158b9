/- trawlnum.SameNodes, tree.Same, trawlref14.Same as contracts. Condition: both trees lie in memory, the first one's lists are short. -/
import Derived.Test.YthddlhpndaffjaaDoorSameP
import Derived.Test.YthddlhpndaffjaaDoorNodeS
namespace Go.Proofs.YthddlhpndaffjaaDoor
open Go Go.RowKit


set_option maxRecDepth 100000 in
set_option maxHeartbeats 8000000 in
theorem sameNodes_any : ∀ (a : Nd) (sva : Value) (b : Nd) (svb : Value) (w : World), NdOk w a sva → NdOk w b svb → smallN a →
    Calls Tryd.prog 21 #[nodeV a.h sva, nodeV b.h svb] w fun r w' => r = .returned (.bool (sameN a b)) ∧ Ext w w' := by
  refine Nd.ind fun hd subs ih sva b svb w hn hn' hsm => ?_
  obtain ⟨hd', subs'⟩ := b
  obtain ⟨A, c, rfl⟩ := hn.shape
  obtain ⟨A', c', rfl⟩ := hn'.shape
  obtain ⟨hlen, hsm⟩ := hsm
  have IH := Lib.hid (fun n hm sv b svb w hn hn' => ih n hm sv b svb w hn hn' (smallL_mem hsm n hm))
  have HN := Lib.hid hn
  have HN' := Lib.hid hn'
  have HR := Lib.hid (by rw [sameN] : sameN (.mk hd subs) (.mk hd' subs') = (sameH hd hd' && decide (subs.length = subs'.length) && sameL subs subs'))
  clear ih hsm hn hn'
  generalize sameN (.mk hd subs) (.mk hd' subs') = res at *
  simp only [Nd.h, Nd.subs] at *
  go_enter Tryd.func21, Tryd.ntmps21
  go_upto_region 1 with (first
    | (refine wpl_boxNd rfl _ rfl hd _ rfl ?_; intro x w1 hb hx1 ex sx)
    | (refine wpl_boxNd rfl _ rfl hd' _ rfl ?_; intro y w2 hc hx2 ey sy))
  have hb2 := hb.ext hx2
  have hx12 := hx1.trans hx2
  clear hb hx1 hx2 ex sx ey sy
  have c5 : w2.cell? ⟨x, 5, none⟩ = some (.slice A subs.length c) := hb2.cell 5
  have d5 : w2.cell? ⟨y, 5, none⟩ = some (.slice A' subs'.length c') := hc.cell 5
  go_cut [54] (fun v wx => v = .bool (!(sameH hd hd' && decide (subs.length = subs'.length))) ∧ w2 = wx)
  case first =>
    have c0 : w2.cell? ⟨x, 0, none⟩ = some (.int .i64 hd.kind) := hb2.cell 0
    have c1 : w2.cell? ⟨x, 1, none⟩ = some (.int .u64 (wd hd.set 0 : Int)) := hb2.cell 1
    have c2 : w2.cell? ⟨x, 2, none⟩ = some (.int .u64 (wd hd.set 1 : Int)) := hb2.cell 2
    have c3 : w2.cell? ⟨x, 3, none⟩ = some (.int .u64 (wd hd.set 2 : Int)) := hb2.cell 3
    have c4 : w2.cell? ⟨x, 4, none⟩ = some (.int .u64 (wd hd.set 3 : Int)) := hb2.cell 4
    have c6 : w2.cell? ⟨x, 6, none⟩ = some (.int .i64 hd.num) := hb2.cell 6
    have c7 : w2.cell? ⟨x, 7, none⟩ = some (.int .i64 hd.min) := hb2.cell 7
    have c8 : w2.cell? ⟨x, 8, none⟩ = some (.int .i64 hd.max) := hb2.cell 8
    have c9 : w2.cell? ⟨x, 9, none⟩ = some (.bool hd.bare) := hb2.cell 9
    have d0 : w2.cell? ⟨y, 0, none⟩ = some (.int .i64 hd'.kind) := hc.cell 0
    have d1 : w2.cell? ⟨y, 1, none⟩ = some (.int .u64 (wd hd'.set 0 : Int)) := hc.cell 1
    have d2 : w2.cell? ⟨y, 2, none⟩ = some (.int .u64 (wd hd'.set 1 : Int)) := hc.cell 2
    have d3 : w2.cell? ⟨y, 3, none⟩ = some (.int .u64 (wd hd'.set 2 : Int)) := hc.cell 3
    have d4 : w2.cell? ⟨y, 4, none⟩ = some (.int .u64 (wd hd'.set 3 : Int)) := hc.cell 4
    have d6 : w2.cell? ⟨y, 6, none⟩ = some (.int .i64 hd'.num) := hc.cell 6
    have d7 : w2.cell? ⟨y, 7, none⟩ = some (.int .i64 hd'.min) := hc.cell 7
    have d8 : w2.cell? ⟨y, 8, none⟩ = some (.int .i64 hd'.max) := hc.cell 8
    have d9 : w2.cell? ⟨y, 9, none⟩ = some (.bool hd'.bare) := hc.cell 9
    have hne := neq_set hd.set hd'.set
    have hS := Lib.hid (show sameH hd hd' = (decide (hd.kind = hd'.kind) && wordsB hd.set hd'.set && decide (hd.num = hd'.num) && decide (hd.min = hd'.min) && decide (hd.max = hd'.max) && (hd.bare == hd'.bare)) from rfl)
    clear HR IH HN HN' hb2 hc hx12
    generalize sameH hd hd' = sh at *
    generalize hd.kind = k1 at *
    generalize hd'.kind = k2 at *
    generalize hd.num = n1 at *
    generalize hd'.num = n2 at *
    generalize hd.min = m1 at *
    generalize hd'.min = m2 at *
    generalize hd.max = x1 at *
    generalize hd'.max = x2 at *
    generalize hd.bare = b1 at *
    generalize hd'.bare = b2 at *
    generalize wordsB hd.set hd'.set = ws at *
    have e0 : ((subs.length : Int) != (subs'.length : Int)) = !decide (subs.length = subs'.length) := by
      by_cases h : subs.length = subs'.length
      · simp [h]
      · have h2 : ¬ ((subs.length : Int) = (subs'.length : Int)) := by omega
        simp [h, h2]
    generalize decide (subs.length = subs'.length) = q at *
    by_cases t1 : k1 = k2
    case' neg => have e1 : (k1 != k2) = true := by simpa using t1
    case' pos =>
      subst t1
      cases ws
      case' true =>
        by_cases t3 : n1 = n2
        case' neg => have e1 : (n1 != n2) = true := by simpa using t3
        case' pos =>
          subst t3
          by_cases t4 : m1 = m2
          case' neg => have e1 : (m1 != m2) = true := by simpa using t4
          case' pos =>
            subst t4
            by_cases t5 : x1 = x2
            case' neg => have e1 : (x1 != x2) = true := by simpa using t5
            case' pos =>
              subst t5
              cases b1 <;> cases b2 <;> cases q
              all_goals
                simp only [Bool.not_true, Bool.not_false] at e0
    all_goals
      go_wp2
      all_goals
        go_meet
        case rel => exact ⟨by rw [hS.out]; first | (simp; done) | (simp [*]; done), rfl⟩
  obtain ⟨rfl, rfl⟩ := hcut
  clear hb2 hc
  cases hS : (sameH hd hd' && decide (subs.length = subs'.length))
  · have HR2 := Lib.hid (show res = false by rw [HR.out, hS, Bool.false_and])
    clear HR IH HN HN' hS
    go_wp2
    go_ret
    exact ⟨by rw [HR2.out]; rfl, hx12⟩
  · have HR2 := Lib.hid (show res = sameL subs subs' by rw [HR.out, hS, Bool.true_and])
    have hll : subs.length = subs'.length := by
      rw [Bool.and_eq_true, decide_eq_true_eq] at hS
      exact hS.2
    have HLL := Lib.hid hll
    clear HR hS hll
    have hx22 : Ext w2 w2 := Ext.refl w2
    simp only [Bool.not_true]
    go_wp2
    go_loopw [58] (fun i wr => ∃ k : Nat, k ≤ subs.length ∧ i = .int .i64 k ∧ sameL (subs.take k) (subs'.take k) = true ∧ Ext w2 wr) (fun i _ => subs.length - (intOf i).toNat)
    case atStart => exact ⟨0, Nat.zero_le _, rfl, by rw [List.take_zero, sameL], hx22⟩
    case round =>
      clear hx22
      obtain ⟨k, hk, rfl, hfl, hx⟩ := hrel
      have HL := Lib.hid hfl
      clear hfl
      replace c5 := hx.cell c5
      replace d5 := hx.cell d5
      by_cases hlt : k < subs.length
      · have hlt' : k < subs'.length := HLL.out ▸ hlt
        obtain ⟨g0, o0, sv, rfl, hat, hok⟩ := HN.out.get k hlt
        obtain ⟨g1, o1, sv', rfl, hat', hok'⟩ := HN'.out.get k hlt'
        have hxw := hx12.trans hx
        replace hat := (hat.ext hxw).drew
        replace hat' := (hat'.ext hxw).drew
        have HST := Lib.hid (sameL_step hlt hlt' HL.out)
        have HEN := Lib.hid (fun h => sameL_stop hlt hlt' h)
        have IHk := Lib.hid (IH.out subs[k] (List.getElem_mem hlt) sv subs'[k] sv' wr.drew (NdOk.ext hxw.drewr _ _ hok) (NdOk.ext hxw.drewr _ _ hok'))
        clear IH HN HN' HL hok hok'
        generalize sameN subs[k] subs'[k] = pk at *
        generalize subs[k] = nk at *
        generalize subs'[k] = nk' at *
        have t1 : (k : Int) < (subs.length : Int) := by omega
        have t2 : (k : Int) < (subs'.length : Int) := by omega
        go_upto_region 6 with fail
        refine wp_region_still_tail 10 (by kernel_rfl) (by kernel_rfl) ?_
        simp only [List.take_succ_cons, List.take_zero, List.drop_succ_cons, List.drop_zero]
        repeat still_step
        refine wpStill_loadNd _ rfl rfl g0 (o0 + k * 10) _ sv rfl hat ?_
        repeat still_step
        refine wpStill_loadNd _ rfl rfl g1 (o1 + k * 10) _ sv' rfl hat' ?_
        repeat still_step
        refine wpStill_nil ?_
        change wpList _ _ _ _ _ wr.drew
        clear hat hat'
        cases pk
        all_goals
          go_wp2_with (go_at_call 21; refine IHk.out.mono ?_; rintro e w6 ⟨rfl, hx6⟩)
        · go_ret
          exact ⟨by rw [HR2.out, HEN.out trivial]; rfl, hxw.drewr.trans hx6⟩
        · go_roundw
          case rel => exact ⟨k + 1, by omega, by go_num, HST.out, hx.drewr.trans hx6⟩
          case measure => simp [intOf]; omega
      · have hkl : subs.take k = subs := List.take_of_length_le (by omega)
        have hkl' : subs'.take k = subs' := List.take_of_length_le (by have := HLL.out; omega)
        rw [hkl, hkl'] at HL
        have t1 : ¬ (k : Int) < (subs.length : Int) := by omega
        clear IH HN HN' hkl hkl'
        go_wp2
        go_ret
        exact ⟨by rw [HR2.out, HL.out]; rfl, hx12.trans hx⟩

set_option maxRecDepth 100000 in
set_option maxHeartbeats 8000000 in
theorem same_any : ∀ (a : Nd) (sva : Value) (b : Nd) (svb : Value) (w : World), NdOk w a sva → NdOk w b svb → smallN a →
    Calls Tryd.prog 35 #[nodeV a.h sva, nodeV b.h svb] w fun r w' => r = .returned (.bool (sameN a b)) ∧ Ext w w' := by
  refine Nd.ind fun hd subs ih sva b svb w hn hn' hsm => ?_
  obtain ⟨hd', subs'⟩ := b
  obtain ⟨A, c, rfl⟩ := hn.shape
  obtain ⟨A', c', rfl⟩ := hn'.shape
  obtain ⟨hlen, hsm⟩ := hsm
  have IH := Lib.hid (fun n hm sv b svb w hn hn' => ih n hm sv b svb w hn hn' (smallL_mem hsm n hm))
  have HN := Lib.hid hn
  have HN' := Lib.hid hn'
  have HR := Lib.hid (by rw [sameN] : sameN (.mk hd subs) (.mk hd' subs') = (sameH hd hd' && decide (subs.length = subs'.length) && sameL subs subs'))
  clear ih hsm hn hn'
  generalize sameN (.mk hd subs) (.mk hd' subs') = res at *
  simp only [Nd.h, Nd.subs] at *
  go_enter Tryd.func35, Tryd.ntmps35
  go_upto_region 1 with (first
    | (refine wpl_boxNd rfl _ rfl hd _ rfl ?_; intro x w1 hb hx1 ex sx)
    | (refine wpl_boxNd rfl _ rfl hd' _ rfl ?_; intro y w2 hc hx2 ey sy))
  have hb2 := hb.ext hx2
  have hx12 := hx1.trans hx2
  clear hb hx1 hx2 ex sx ey sy
  have c5 : w2.cell? ⟨x, 5, none⟩ = some (.slice A subs.length c) := hb2.cell 5
  have d5 : w2.cell? ⟨y, 5, none⟩ = some (.slice A' subs'.length c') := hc.cell 5
  go_cut [54] (fun v wx => v = .bool (!(sameH hd hd' && decide (subs.length = subs'.length))) ∧ w2 = wx)
  case first =>
    have c0 : w2.cell? ⟨x, 0, none⟩ = some (.int .i64 hd.kind) := hb2.cell 0
    have c1 : w2.cell? ⟨x, 1, none⟩ = some (.int .u64 (wd hd.set 0 : Int)) := hb2.cell 1
    have c2 : w2.cell? ⟨x, 2, none⟩ = some (.int .u64 (wd hd.set 1 : Int)) := hb2.cell 2
    have c3 : w2.cell? ⟨x, 3, none⟩ = some (.int .u64 (wd hd.set 2 : Int)) := hb2.cell 3
    have c4 : w2.cell? ⟨x, 4, none⟩ = some (.int .u64 (wd hd.set 3 : Int)) := hb2.cell 4
    have c6 : w2.cell? ⟨x, 6, none⟩ = some (.int .i64 hd.num) := hb2.cell 6
    have c7 : w2.cell? ⟨x, 7, none⟩ = some (.int .i64 hd.min) := hb2.cell 7
    have c8 : w2.cell? ⟨x, 8, none⟩ = some (.int .i64 hd.max) := hb2.cell 8
    have c9 : w2.cell? ⟨x, 9, none⟩ = some (.bool hd.bare) := hb2.cell 9
    have d0 : w2.cell? ⟨y, 0, none⟩ = some (.int .i64 hd'.kind) := hc.cell 0
    have d1 : w2.cell? ⟨y, 1, none⟩ = some (.int .u64 (wd hd'.set 0 : Int)) := hc.cell 1
    have d2 : w2.cell? ⟨y, 2, none⟩ = some (.int .u64 (wd hd'.set 1 : Int)) := hc.cell 2
    have d3 : w2.cell? ⟨y, 3, none⟩ = some (.int .u64 (wd hd'.set 2 : Int)) := hc.cell 3
    have d4 : w2.cell? ⟨y, 4, none⟩ = some (.int .u64 (wd hd'.set 3 : Int)) := hc.cell 4
    have d6 : w2.cell? ⟨y, 6, none⟩ = some (.int .i64 hd'.num) := hc.cell 6
    have d7 : w2.cell? ⟨y, 7, none⟩ = some (.int .i64 hd'.min) := hc.cell 7
    have d8 : w2.cell? ⟨y, 8, none⟩ = some (.int .i64 hd'.max) := hc.cell 8
    have d9 : w2.cell? ⟨y, 9, none⟩ = some (.bool hd'.bare) := hc.cell 9
    have hne := neq_set hd.set hd'.set
    have hS := Lib.hid (show sameH hd hd' = (decide (hd.kind = hd'.kind) && wordsB hd.set hd'.set && decide (hd.num = hd'.num) && decide (hd.min = hd'.min) && decide (hd.max = hd'.max) && (hd.bare == hd'.bare)) from rfl)
    clear HR IH HN HN' hb2 hc hx12
    generalize sameH hd hd' = sh at *
    generalize hd.kind = k1 at *
    generalize hd'.kind = k2 at *
    generalize hd.num = n1 at *
    generalize hd'.num = n2 at *
    generalize hd.min = m1 at *
    generalize hd'.min = m2 at *
    generalize hd.max = x1 at *
    generalize hd'.max = x2 at *
    generalize hd.bare = b1 at *
    generalize hd'.bare = b2 at *
    generalize wordsB hd.set hd'.set = ws at *
    have e0 : ((subs.length : Int) != (subs'.length : Int)) = !decide (subs.length = subs'.length) := by
      by_cases h : subs.length = subs'.length
      · simp [h]
      · have h2 : ¬ ((subs.length : Int) = (subs'.length : Int)) := by omega
        simp [h, h2]
    generalize decide (subs.length = subs'.length) = q at *
    by_cases t1 : k1 = k2
    case' neg => have e1 : (k1 != k2) = true := by simpa using t1
    case' pos =>
      subst t1
      cases ws
      case' true =>
        by_cases t3 : n1 = n2
        case' neg => have e1 : (n1 != n2) = true := by simpa using t3
        case' pos =>
          subst t3
          by_cases t4 : m1 = m2
          case' neg => have e1 : (m1 != m2) = true := by simpa using t4
          case' pos =>
            subst t4
            by_cases t5 : x1 = x2
            case' neg => have e1 : (x1 != x2) = true := by simpa using t5
            case' pos =>
              subst t5
              cases b1 <;> cases b2 <;> cases q
              all_goals
                simp only [Bool.not_true, Bool.not_false] at e0
    all_goals
      go_wp2
      all_goals
        go_meet
        case rel => exact ⟨by rw [hS.out]; first | (simp; done) | (simp [*]; done), rfl⟩
  obtain ⟨rfl, rfl⟩ := hcut
  clear hb2 hc
  cases hS : (sameH hd hd' && decide (subs.length = subs'.length))
  · have HR2 := Lib.hid (show res = false by rw [HR.out, hS, Bool.false_and])
    clear HR IH HN HN' hS
    go_wp2
    go_ret
    exact ⟨by rw [HR2.out]; rfl, hx12⟩
  · have HR2 := Lib.hid (show res = sameL subs subs' by rw [HR.out, hS, Bool.true_and])
    have hll : subs.length = subs'.length := by
      rw [Bool.and_eq_true, decide_eq_true_eq] at hS
      exact hS.2
    have HLL := Lib.hid hll
    clear HR hS hll
    have hx22 : Ext w2 w2 := Ext.refl w2
    simp only [Bool.not_true]
    go_wp2
    go_loopw [58] (fun i wr => ∃ k : Nat, k ≤ subs.length ∧ i = .int .i64 k ∧ sameL (subs.take k) (subs'.take k) = true ∧ Ext w2 wr) (fun i _ => subs.length - (intOf i).toNat)
    case atStart => exact ⟨0, Nat.zero_le _, rfl, by rw [List.take_zero, sameL], hx22⟩
    case round =>
      clear hx22
      obtain ⟨k, hk, rfl, hfl, hx⟩ := hrel
      have HL := Lib.hid hfl
      clear hfl
      replace c5 := hx.cell c5
      replace d5 := hx.cell d5
      by_cases hlt : k < subs.length
      · have hlt' : k < subs'.length := HLL.out ▸ hlt
        obtain ⟨g0, o0, sv, rfl, hat, hok⟩ := HN.out.get k hlt
        obtain ⟨g1, o1, sv', rfl, hat', hok'⟩ := HN'.out.get k hlt'
        have hxw := hx12.trans hx
        replace hat := (hat.ext hxw).drew
        replace hat' := (hat'.ext hxw).drew
        have HST := Lib.hid (sameL_step hlt hlt' HL.out)
        have HEN := Lib.hid (fun h => sameL_stop hlt hlt' h)
        have IHk := Lib.hid (IH.out subs[k] (List.getElem_mem hlt) sv subs'[k] sv' wr.drew (NdOk.ext hxw.drewr _ _ hok) (NdOk.ext hxw.drewr _ _ hok'))
        clear IH HN HN' HL hok hok'
        generalize sameN subs[k] subs'[k] = pk at *
        generalize subs[k] = nk at *
        generalize subs'[k] = nk' at *
        have t1 : (k : Int) < (subs.length : Int) := by omega
        have t2 : (k : Int) < (subs'.length : Int) := by omega
        go_upto_region 6 with fail
        refine wp_region_still_tail 10 (by kernel_rfl) (by kernel_rfl) ?_
        simp only [List.take_succ_cons, List.take_zero, List.drop_succ_cons, List.drop_zero]
        repeat still_step
        refine wpStill_loadNd _ rfl rfl g0 (o0 + k * 10) _ sv rfl hat ?_
        repeat still_step
        refine wpStill_loadNd _ rfl rfl g1 (o1 + k * 10) _ sv' rfl hat' ?_
        repeat still_step
        refine wpStill_nil ?_
        change wpList _ _ _ _ _ wr.drew
        clear hat hat'
        cases pk
        all_goals
          go_wp2_with (go_at_call 35; refine IHk.out.mono ?_; rintro e w6 ⟨rfl, hx6⟩)
        · go_ret
          exact ⟨by rw [HR2.out, HEN.out trivial]; rfl, hxw.drewr.trans hx6⟩
        · go_roundw
          case rel => exact ⟨k + 1, by omega, by go_num, HST.out, hx.drewr.trans hx6⟩
          case measure => simp [intOf]; omega
      · have hkl : subs.take k = subs := List.take_of_length_le (by omega)
        have hkl' : subs'.take k = subs' := List.take_of_length_le (by have := HLL.out; omega)
        rw [hkl, hkl'] at HL
        have t1 : ¬ (k : Int) < (subs.length : Int) := by omega
        clear IH HN HN' hkl hkl'
        go_wp2
        go_ret
        exact ⟨by rw [HR2.out, HL.out]; rfl, hx12.trans hx⟩

set_option maxRecDepth 100000 in
set_option maxHeartbeats 8000000 in
theorem sameR_any : ∀ (a : Nd) (sva : Value) (b : Nd) (svb : Value) (w : World), NdOk w a sva → NdOk w b svb → smallN a →
    Calls Tryd.prog 58 #[nodeV a.h sva, nodeV b.h svb] w fun r w' => r = .returned (.bool (sameN a b)) ∧ Ext w w' := by
  refine Nd.ind fun hd subs ih sva b svb w hn hn' hsm => ?_
  obtain ⟨hd', subs'⟩ := b
  obtain ⟨A, c, rfl⟩ := hn.shape
  obtain ⟨A', c', rfl⟩ := hn'.shape
  obtain ⟨hlen, hsm⟩ := hsm
  have IH := Lib.hid (fun n hm sv b svb w hn hn' => ih n hm sv b svb w hn hn' (smallL_mem hsm n hm))
  have HN := Lib.hid hn
  have HN' := Lib.hid hn'
  have HR := Lib.hid (by rw [sameN] : sameN (.mk hd subs) (.mk hd' subs') = (sameH hd hd' && decide (subs.length = subs'.length) && sameL subs subs'))
  clear ih hsm hn hn'
  generalize sameN (.mk hd subs) (.mk hd' subs') = res at *
  simp only [Nd.h, Nd.subs] at *
  go_enter Tryd.func58, Tryd.ntmps58
  go_upto_region 1 with (first
    | (refine wpl_boxNd rfl _ rfl hd _ rfl ?_; intro x w1 hb hx1 ex sx)
    | (refine wpl_boxNd rfl _ rfl hd' _ rfl ?_; intro y w2 hc hx2 ey sy))
  have hb2 := hb.ext hx2
  have hx12 := hx1.trans hx2
  clear hb hx1 hx2 ex sx ey sy
  have c5 : w2.cell? ⟨x, 5, none⟩ = some (.slice A subs.length c) := hb2.cell 5
  have d5 : w2.cell? ⟨y, 5, none⟩ = some (.slice A' subs'.length c') := hc.cell 5
  go_cut [55] (fun v wx => v = .bool (!(sameH hd hd' && decide (subs.length = subs'.length))) ∧ w2 = wx)
  case first =>
    have c0 : w2.cell? ⟨x, 0, none⟩ = some (.int .i64 hd.kind) := hb2.cell 0
    have c1 : w2.cell? ⟨x, 1, none⟩ = some (.int .u64 (wd hd.set 0 : Int)) := hb2.cell 1
    have c2 : w2.cell? ⟨x, 2, none⟩ = some (.int .u64 (wd hd.set 1 : Int)) := hb2.cell 2
    have c3 : w2.cell? ⟨x, 3, none⟩ = some (.int .u64 (wd hd.set 2 : Int)) := hb2.cell 3
    have c4 : w2.cell? ⟨x, 4, none⟩ = some (.int .u64 (wd hd.set 3 : Int)) := hb2.cell 4
    have c6 : w2.cell? ⟨x, 6, none⟩ = some (.int .i64 hd.num) := hb2.cell 6
    have c7 : w2.cell? ⟨x, 7, none⟩ = some (.int .i64 hd.min) := hb2.cell 7
    have c8 : w2.cell? ⟨x, 8, none⟩ = some (.int .i64 hd.max) := hb2.cell 8
    have c9 : w2.cell? ⟨x, 9, none⟩ = some (.bool hd.bare) := hb2.cell 9
    have d0 : w2.cell? ⟨y, 0, none⟩ = some (.int .i64 hd'.kind) := hc.cell 0
    have d1 : w2.cell? ⟨y, 1, none⟩ = some (.int .u64 (wd hd'.set 0 : Int)) := hc.cell 1
    have d2 : w2.cell? ⟨y, 2, none⟩ = some (.int .u64 (wd hd'.set 1 : Int)) := hc.cell 2
    have d3 : w2.cell? ⟨y, 3, none⟩ = some (.int .u64 (wd hd'.set 2 : Int)) := hc.cell 3
    have d4 : w2.cell? ⟨y, 4, none⟩ = some (.int .u64 (wd hd'.set 3 : Int)) := hc.cell 4
    have d6 : w2.cell? ⟨y, 6, none⟩ = some (.int .i64 hd'.num) := hc.cell 6
    have d7 : w2.cell? ⟨y, 7, none⟩ = some (.int .i64 hd'.min) := hc.cell 7
    have d8 : w2.cell? ⟨y, 8, none⟩ = some (.int .i64 hd'.max) := hc.cell 8
    have d9 : w2.cell? ⟨y, 9, none⟩ = some (.bool hd'.bare) := hc.cell 9
    have hne := neq_set hd.set hd'.set
    have hS := Lib.hid (show sameH hd hd' = (decide (hd.kind = hd'.kind) && wordsB hd.set hd'.set && decide (hd.num = hd'.num) && decide (hd.min = hd'.min) && decide (hd.max = hd'.max) && (hd.bare == hd'.bare)) from rfl)
    clear HR IH HN HN' hb2 hc hx12
    generalize sameH hd hd' = sh at *
    generalize hd.kind = k1 at *
    generalize hd'.kind = k2 at *
    generalize hd.num = n1 at *
    generalize hd'.num = n2 at *
    generalize hd.min = m1 at *
    generalize hd'.min = m2 at *
    generalize hd.max = x1 at *
    generalize hd'.max = x2 at *
    generalize hd.bare = b1 at *
    generalize hd'.bare = b2 at *
    generalize wordsB hd.set hd'.set = ws at *
    have e0 : ((subs.length : Int) != (subs'.length : Int)) = !decide (subs.length = subs'.length) := by
      by_cases h : subs.length = subs'.length
      · simp [h]
      · have h2 : ¬ ((subs.length : Int) = (subs'.length : Int)) := by omega
        simp [h, h2]
    generalize decide (subs.length = subs'.length) = q at *
    by_cases t1 : k1 = k2
    case' neg => have e1 : (k1 != k2) = true := by simpa using t1
    case' pos =>
      subst t1
      cases ws
      case' true =>
        by_cases t3 : n1 = n2
        case' neg => have e1 : (n1 != n2) = true := by simpa using t3
        case' pos =>
          subst t3
          by_cases t4 : m1 = m2
          case' neg => have e1 : (m1 != m2) = true := by simpa using t4
          case' pos =>
            subst t4
            by_cases t5 : x1 = x2
            case' neg => have e1 : (x1 != x2) = true := by simpa using t5
            case' pos =>
              subst t5
              cases b1 <;> cases b2 <;> cases q
              all_goals
                simp only [Bool.not_true, Bool.not_false] at e0
    all_goals
      go_wp2
      all_goals
        go_meet
        case rel => exact ⟨by rw [hS.out]; first | (simp; done) | (simp [*]; done), rfl⟩
  obtain ⟨rfl, rfl⟩ := hcut
  clear hb2 hc
  cases hS : (sameH hd hd' && decide (subs.length = subs'.length))
  · have HR2 := Lib.hid (show res = false by rw [HR.out, hS, Bool.false_and])
    clear HR IH HN HN' hS
    go_wp2
    go_ret
    exact ⟨by rw [HR2.out]; rfl, hx12⟩
  · have HR2 := Lib.hid (show res = sameL subs subs' by rw [HR.out, hS, Bool.true_and])
    have hll : subs.length = subs'.length := by
      rw [Bool.and_eq_true, decide_eq_true_eq] at hS
      exact hS.2
    have HLL := Lib.hid hll
    clear HR hS hll
    have hx22 : Ext w2 w2 := Ext.refl w2
    simp only [Bool.not_true]
    go_wp2
    go_loopw [5] (fun i wr => ∃ k : Nat, k ≤ subs.length ∧ i = .int .i64 k ∧ sameL (subs.take k) (subs'.take k) = true ∧ Ext w2 wr) (fun i _ => subs.length - (intOf i).toNat)
    case atStart => exact ⟨0, Nat.zero_le _, rfl, by rw [List.take_zero, sameL], hx22⟩
    case round =>
      clear hx22
      obtain ⟨k, hk, rfl, hfl, hx⟩ := hrel
      have HL := Lib.hid hfl
      clear hfl
      replace c5 := hx.cell c5
      replace d5 := hx.cell d5
      by_cases hlt : k < subs.length
      · have hlt' : k < subs'.length := HLL.out ▸ hlt
        obtain ⟨g0, o0, sv, rfl, hat, hok⟩ := HN.out.get k hlt
        obtain ⟨g1, o1, sv', rfl, hat', hok'⟩ := HN'.out.get k hlt'
        have hxw := hx12.trans hx
        replace hat := (hat.ext hxw).drew
        replace hat' := (hat'.ext hxw).drew
        have HST := Lib.hid (sameL_step hlt hlt' HL.out)
        have HEN := Lib.hid (fun h => sameL_stop hlt hlt' h)
        have IHk := Lib.hid (IH.out subs[k] (List.getElem_mem hlt) sv subs'[k] sv' wr.drew (NdOk.ext hxw.drewr _ _ hok) (NdOk.ext hxw.drewr _ _ hok'))
        clear IH HN HN' HL hok hok'
        generalize sameN subs[k] subs'[k] = pk at *
        generalize subs[k] = nk at *
        generalize subs'[k] = nk' at *
        have t1 : (k : Int) < (subs.length : Int) := by omega
        have t2 : (k : Int) < (subs'.length : Int) := by omega
        go_upto_region 6 with fail
        refine wp_region_still_tail 10 (by kernel_rfl) (by kernel_rfl) ?_
        simp only [List.take_succ_cons, List.take_zero, List.drop_succ_cons, List.drop_zero]
        repeat still_step
        refine wpStill_loadNd _ rfl rfl g0 (o0 + k * 10) _ sv rfl hat ?_
        repeat still_step
        refine wpStill_loadNd _ rfl rfl g1 (o1 + k * 10) _ sv' rfl hat' ?_
        repeat still_step
        refine wpStill_nil ?_
        change wpList _ _ _ _ _ wr.drew
        clear hat hat'
        cases pk
        all_goals
          go_wp2_with (go_at_call 58; refine IHk.out.mono ?_; rintro e w6 ⟨rfl, hx6⟩)
        · go_ret
          exact ⟨by rw [HR2.out, HEN.out trivial]; rfl, hxw.drewr.trans hx6⟩
        · go_roundw
          case rel => exact ⟨k + 1, by omega, by go_num, HST.out, hx.drewr.trans hx6⟩
          case measure => simp [intOf]; omega
      · have hkl : subs.take k = subs := List.take_of_length_le (by omega)
        have hkl' : subs'.take k = subs' := List.take_of_length_le (by have := HLL.out; omega)
        rw [hkl, hkl'] at HL
        have t1 : ¬ (k : Int) < (subs.length : Int) := by omega
        clear IH HN HN' hkl hkl'
        go_wp2
        go_ret
        exact ⟨by rw [HR2.out, HL.out]; rfl, hx12.trans hx⟩

end Go.Proofs.YthddlhpndaffjaaDoor
