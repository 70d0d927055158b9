/- trawlnum.SameNodes, tree.Same, trawlref14.Same as contracts. Condition: both trees lie in memory, the first one's lists are short. normal.alt as a contract. Condition: the trees lie in memory, clean and in form. A region that draws its order, whose first n operations are quiet in a class of worlds and whose others come last and one behind the other: one walk, in the order of the text. No condition. tree.size as a contract. Condition: the tree lies in memory, its lists are short, it is in form. -/
import Derived.Test.YtkcgbdoplhgbmaaDoorSameP
import Derived.Test.YtkcgbdoplhgbmaaDoorZNormalMakesAA
import Derived.Test.YtkcgbdoplhgbmaaDoorNwB
import Derived.Test.YtkcgbdoplhgbmaaDoorNrmI
import Derived.Test.YtkcgbdoplhgbmaaDoorLib
import Derived.StillTailTactics
import Derived.Test.YtkcgbdoplhgbmaaDoorSizeP
namespace Go.Proofs.YtkcgbdoplhgbmaaDoor
open Go Go.RowKit


set_option maxRecDepth 100000 in
set_option maxHeartbeats 8000000 in
theorem sameNodes_any : ∀ (a : Nd) (sva : Value) (b : Nd) (svb : Value) (w : World), NdOk w a sva → NdOk w b svb → smallN a →
    Calls Tryd.prog 19 #[nodeV a.h sva, nodeV b.h svb] w fun r w' => r = .returned (.bool (sameN a b)) ∧ Ext w w' := by
  refine Nd.ind fun hd subs ih sva b svb w hn hn' hsm => ?_
  obtain ⟨hd', subs'⟩ := b
  obtain ⟨A, c, rfl⟩ := hn.shape
  obtain ⟨A', c', rfl⟩ := hn'.shape
  obtain ⟨hlen, hsm⟩ := hsm
  have IH := Lib.hid (fun n hm sv b svb w hn hn' => ih n hm sv b svb w hn hn' (smallL_mem hsm n hm))
  have HN := Lib.hid hn
  have HN' := Lib.hid hn'
  have HR := Lib.hid (by rw [sameN] : sameN (.mk hd subs) (.mk hd' subs') = (sameH hd hd' && decide (subs.length = subs'.length) && sameL subs subs'))
  clear ih hsm hn hn'
  generalize sameN (.mk hd subs) (.mk hd' subs') = res at *
  simp only [Nd.h, Nd.subs] at *
  go_enter Tryd.func19, Tryd.ntmps19
  go_upto_region 1 with (first
    | (refine wpl_boxNd rfl _ rfl hd _ rfl ?_; intro x w1 hb hx1 ex sx)
    | (refine wpl_boxNd rfl _ rfl hd' _ rfl ?_; intro y w2 hc hx2 ey sy))
  have hb2 := hb.ext hx2
  have hx12 := hx1.trans hx2
  clear hb hx1 hx2 ex sx ey sy
  have c5 : w2.cell? ⟨x, 5, none⟩ = some (.slice A subs.length c) := hb2.cell 5
  have d5 : w2.cell? ⟨y, 5, none⟩ = some (.slice A' subs'.length c') := hc.cell 5
  go_cut [54] (fun v wx => v = .bool (!(sameH hd hd' && decide (subs.length = subs'.length))) ∧ w2 = wx)
  case first =>
    have c0 : w2.cell? ⟨x, 0, none⟩ = some (.int .i64 hd.kind) := hb2.cell 0
    have c1 : w2.cell? ⟨x, 1, none⟩ = some (.int .u64 (wd hd.set 0 : Int)) := hb2.cell 1
    have c2 : w2.cell? ⟨x, 2, none⟩ = some (.int .u64 (wd hd.set 1 : Int)) := hb2.cell 2
    have c3 : w2.cell? ⟨x, 3, none⟩ = some (.int .u64 (wd hd.set 2 : Int)) := hb2.cell 3
    have c4 : w2.cell? ⟨x, 4, none⟩ = some (.int .u64 (wd hd.set 3 : Int)) := hb2.cell 4
    have c6 : w2.cell? ⟨x, 6, none⟩ = some (.int .i64 hd.num) := hb2.cell 6
    have c7 : w2.cell? ⟨x, 7, none⟩ = some (.int .i64 hd.min) := hb2.cell 7
    have c8 : w2.cell? ⟨x, 8, none⟩ = some (.int .i64 hd.max) := hb2.cell 8
    have c9 : w2.cell? ⟨x, 9, none⟩ = some (.bool hd.bare) := hb2.cell 9
    have d0 : w2.cell? ⟨y, 0, none⟩ = some (.int .i64 hd'.kind) := hc.cell 0
    have d1 : w2.cell? ⟨y, 1, none⟩ = some (.int .u64 (wd hd'.set 0 : Int)) := hc.cell 1
    have d2 : w2.cell? ⟨y, 2, none⟩ = some (.int .u64 (wd hd'.set 1 : Int)) := hc.cell 2
    have d3 : w2.cell? ⟨y, 3, none⟩ = some (.int .u64 (wd hd'.set 2 : Int)) := hc.cell 3
    have d4 : w2.cell? ⟨y, 4, none⟩ = some (.int .u64 (wd hd'.set 3 : Int)) := hc.cell 4
    have d6 : w2.cell? ⟨y, 6, none⟩ = some (.int .i64 hd'.num) := hc.cell 6
    have d7 : w2.cell? ⟨y, 7, none⟩ = some (.int .i64 hd'.min) := hc.cell 7
    have d8 : w2.cell? ⟨y, 8, none⟩ = some (.int .i64 hd'.max) := hc.cell 8
    have d9 : w2.cell? ⟨y, 9, none⟩ = some (.bool hd'.bare) := hc.cell 9
    have hne := neq_set hd.set hd'.set
    have hS := Lib.hid (show sameH hd hd' = (decide (hd.kind = hd'.kind) && wordsB hd.set hd'.set && decide (hd.num = hd'.num) && decide (hd.min = hd'.min) && decide (hd.max = hd'.max) && (hd.bare == hd'.bare)) from rfl)
    clear HR IH HN HN' hb2 hc hx12
    generalize sameH hd hd' = sh at *
    generalize hd.kind = k1 at *
    generalize hd'.kind = k2 at *
    generalize hd.num = n1 at *
    generalize hd'.num = n2 at *
    generalize hd.min = m1 at *
    generalize hd'.min = m2 at *
    generalize hd.max = x1 at *
    generalize hd'.max = x2 at *
    generalize hd.bare = b1 at *
    generalize hd'.bare = b2 at *
    generalize wordsB hd.set hd'.set = ws at *
    have e0 : ((subs.length : Int) != (subs'.length : Int)) = !decide (subs.length = subs'.length) := by
      by_cases h : subs.length = subs'.length
      · simp [h]
      · have h2 : ¬ ((subs.length : Int) = (subs'.length : Int)) := by omega
        simp [h, h2]
    generalize decide (subs.length = subs'.length) = q at *
    by_cases t1 : k1 = k2
    case' neg => have e1 : (k1 != k2) = true := by simpa using t1
    case' pos =>
      subst t1
      cases ws
      case' true =>
        by_cases t3 : n1 = n2
        case' neg => have e1 : (n1 != n2) = true := by simpa using t3
        case' pos =>
          subst t3
          by_cases t4 : m1 = m2
          case' neg => have e1 : (m1 != m2) = true := by simpa using t4
          case' pos =>
            subst t4
            by_cases t5 : x1 = x2
            case' neg => have e1 : (x1 != x2) = true := by simpa using t5
            case' pos =>
              subst t5
              cases b1 <;> cases b2 <;> cases q
              all_goals
                simp only [Bool.not_true, Bool.not_false] at e0
    all_goals
      go_wp2
      all_goals
        go_meet
        case rel => exact ⟨by rw [hS.out]; first | (simp; done) | (simp [*]; done), rfl⟩
  obtain ⟨rfl, rfl⟩ := hcut
  clear hb2 hc
  cases hS : (sameH hd hd' && decide (subs.length = subs'.length))
  · have HR2 := Lib.hid (show res = false by rw [HR.out, hS, Bool.false_and])
    clear HR IH HN HN' hS
    go_wp2
    go_ret
    exact ⟨by rw [HR2.out]; rfl, hx12⟩
  · have HR2 := Lib.hid (show res = sameL subs subs' by rw [HR.out, hS, Bool.true_and])
    have hll : subs.length = subs'.length := by
      rw [Bool.and_eq_true, decide_eq_true_eq] at hS
      exact hS.2
    have HLL := Lib.hid hll
    clear HR hS hll
    have hx22 : Ext w2 w2 := Ext.refl w2
    simp only [Bool.not_true]
    go_wp2
    go_loopw [58] (fun i wr => ∃ k : Nat, k ≤ subs.length ∧ i = .int .i64 k ∧ sameL (subs.take k) (subs'.take k) = true ∧ Ext w2 wr) (fun i _ => subs.length - (intOf i).toNat)
    case atStart => exact ⟨0, Nat.zero_le _, rfl, by rw [List.take_zero, sameL], hx22⟩
    case round =>
      clear hx22
      obtain ⟨k, hk, rfl, hfl, hx⟩ := hrel
      have HL := Lib.hid hfl
      clear hfl
      replace c5 := hx.cell c5
      replace d5 := hx.cell d5
      by_cases hlt : k < subs.length
      · have hlt' : k < subs'.length := HLL.out ▸ hlt
        obtain ⟨g0, o0, sv, rfl, hat, hok⟩ := HN.out.get k hlt
        obtain ⟨g1, o1, sv', rfl, hat', hok'⟩ := HN'.out.get k hlt'
        have hxw := hx12.trans hx
        replace hat := (hat.ext hxw).drew
        replace hat' := (hat'.ext hxw).drew
        have HST := Lib.hid (sameL_step hlt hlt' HL.out)
        have HEN := Lib.hid (fun h => sameL_stop hlt hlt' h)
        have IHk := Lib.hid (IH.out subs[k] (List.getElem_mem hlt) sv subs'[k] sv' wr.drew (NdOk.ext hxw.drewr _ _ hok) (NdOk.ext hxw.drewr _ _ hok'))
        clear IH HN HN' HL hok hok'
        generalize sameN subs[k] subs'[k] = pk at *
        generalize subs[k] = nk at *
        generalize subs'[k] = nk' at *
        have t1 : (k : Int) < (subs.length : Int) := by omega
        have t2 : (k : Int) < (subs'.length : Int) := by omega
        go_upto_region 6 with fail
        refine wp_region_still_tail 10 (by kernel_rfl) (by kernel_rfl) ?_
        simp only [List.take_succ_cons, List.take_zero, List.drop_succ_cons, List.drop_zero]
        repeat still_step
        refine wpStill_loadNd _ rfl rfl g0 (o0 + k * 10) _ sv rfl hat ?_
        repeat still_step
        refine wpStill_loadNd _ rfl rfl g1 (o1 + k * 10) _ sv' rfl hat' ?_
        repeat still_step
        refine wpStill_nil ?_
        change wpList _ _ _ _ _ wr.drew
        clear hat hat'
        cases pk
        all_goals
          go_wp2_with (go_at_call 19; refine IHk.out.mono ?_; rintro e w6 ⟨rfl, hx6⟩)
        · go_ret
          exact ⟨by rw [HR2.out, HEN.out trivial]; rfl, hxw.drewr.trans hx6⟩
        · go_roundw
          case rel => exact ⟨k + 1, by omega, by go_num, HST.out, hx.drewr.trans hx6⟩
          case measure => simp [intOf]; omega
      · have hkl : subs.take k = subs := List.take_of_length_le (by omega)
        have hkl' : subs'.take k = subs' := List.take_of_length_le (by have := HLL.out; omega)
        rw [hkl, hkl'] at HL
        have t1 : ¬ (k : Int) < (subs.length : Int) := by omega
        clear IH HN HN' hkl hkl'
        go_wp2
        go_ret
        exact ⟨by rw [HR2.out, HL.out]; rfl, hx12.trans hx⟩

set_option maxRecDepth 100000 in
set_option maxHeartbeats 8000000 in
theorem same_any : ∀ (a : Nd) (sva : Value) (b : Nd) (svb : Value) (w : World), NdOk w a sva → NdOk w b svb → smallN a →
    Calls Tryd.prog 24 #[nodeV a.h sva, nodeV b.h svb] w fun r w' => r = .returned (.bool (sameN a b)) ∧ Ext w w' := by
  refine Nd.ind fun hd subs ih sva b svb w hn hn' hsm => ?_
  obtain ⟨hd', subs'⟩ := b
  obtain ⟨A, c, rfl⟩ := hn.shape
  obtain ⟨A', c', rfl⟩ := hn'.shape
  obtain ⟨hlen, hsm⟩ := hsm
  have IH := Lib.hid (fun n hm sv b svb w hn hn' => ih n hm sv b svb w hn hn' (smallL_mem hsm n hm))
  have HN := Lib.hid hn
  have HN' := Lib.hid hn'
  have HR := Lib.hid (by rw [sameN] : sameN (.mk hd subs) (.mk hd' subs') = (sameH hd hd' && decide (subs.length = subs'.length) && sameL subs subs'))
  clear ih hsm hn hn'
  generalize sameN (.mk hd subs) (.mk hd' subs') = res at *
  simp only [Nd.h, Nd.subs] at *
  go_enter Tryd.func24, Tryd.ntmps24
  go_upto_region 1 with (first
    | (refine wpl_boxNd rfl _ rfl hd _ rfl ?_; intro x w1 hb hx1 ex sx)
    | (refine wpl_boxNd rfl _ rfl hd' _ rfl ?_; intro y w2 hc hx2 ey sy))
  have hb2 := hb.ext hx2
  have hx12 := hx1.trans hx2
  clear hb hx1 hx2 ex sx ey sy
  have c5 : w2.cell? ⟨x, 5, none⟩ = some (.slice A subs.length c) := hb2.cell 5
  have d5 : w2.cell? ⟨y, 5, none⟩ = some (.slice A' subs'.length c') := hc.cell 5
  go_cut [54] (fun v wx => v = .bool (!(sameH hd hd' && decide (subs.length = subs'.length))) ∧ w2 = wx)
  case first =>
    have c0 : w2.cell? ⟨x, 0, none⟩ = some (.int .i64 hd.kind) := hb2.cell 0
    have c1 : w2.cell? ⟨x, 1, none⟩ = some (.int .u64 (wd hd.set 0 : Int)) := hb2.cell 1
    have c2 : w2.cell? ⟨x, 2, none⟩ = some (.int .u64 (wd hd.set 1 : Int)) := hb2.cell 2
    have c3 : w2.cell? ⟨x, 3, none⟩ = some (.int .u64 (wd hd.set 2 : Int)) := hb2.cell 3
    have c4 : w2.cell? ⟨x, 4, none⟩ = some (.int .u64 (wd hd.set 3 : Int)) := hb2.cell 4
    have c6 : w2.cell? ⟨x, 6, none⟩ = some (.int .i64 hd.num) := hb2.cell 6
    have c7 : w2.cell? ⟨x, 7, none⟩ = some (.int .i64 hd.min) := hb2.cell 7
    have c8 : w2.cell? ⟨x, 8, none⟩ = some (.int .i64 hd.max) := hb2.cell 8
    have c9 : w2.cell? ⟨x, 9, none⟩ = some (.bool hd.bare) := hb2.cell 9
    have d0 : w2.cell? ⟨y, 0, none⟩ = some (.int .i64 hd'.kind) := hc.cell 0
    have d1 : w2.cell? ⟨y, 1, none⟩ = some (.int .u64 (wd hd'.set 0 : Int)) := hc.cell 1
    have d2 : w2.cell? ⟨y, 2, none⟩ = some (.int .u64 (wd hd'.set 1 : Int)) := hc.cell 2
    have d3 : w2.cell? ⟨y, 3, none⟩ = some (.int .u64 (wd hd'.set 2 : Int)) := hc.cell 3
    have d4 : w2.cell? ⟨y, 4, none⟩ = some (.int .u64 (wd hd'.set 3 : Int)) := hc.cell 4
    have d6 : w2.cell? ⟨y, 6, none⟩ = some (.int .i64 hd'.num) := hc.cell 6
    have d7 : w2.cell? ⟨y, 7, none⟩ = some (.int .i64 hd'.min) := hc.cell 7
    have d8 : w2.cell? ⟨y, 8, none⟩ = some (.int .i64 hd'.max) := hc.cell 8
    have d9 : w2.cell? ⟨y, 9, none⟩ = some (.bool hd'.bare) := hc.cell 9
    have hne := neq_set hd.set hd'.set
    have hS := Lib.hid (show sameH hd hd' = (decide (hd.kind = hd'.kind) && wordsB hd.set hd'.set && decide (hd.num = hd'.num) && decide (hd.min = hd'.min) && decide (hd.max = hd'.max) && (hd.bare == hd'.bare)) from rfl)
    clear HR IH HN HN' hb2 hc hx12
    generalize sameH hd hd' = sh at *
    generalize hd.kind = k1 at *
    generalize hd'.kind = k2 at *
    generalize hd.num = n1 at *
    generalize hd'.num = n2 at *
    generalize hd.min = m1 at *
    generalize hd'.min = m2 at *
    generalize hd.max = x1 at *
    generalize hd'.max = x2 at *
    generalize hd.bare = b1 at *
    generalize hd'.bare = b2 at *
    generalize wordsB hd.set hd'.set = ws at *
    have e0 : ((subs.length : Int) != (subs'.length : Int)) = !decide (subs.length = subs'.length) := by
      by_cases h : subs.length = subs'.length
      · simp [h]
      · have h2 : ¬ ((subs.length : Int) = (subs'.length : Int)) := by omega
        simp [h, h2]
    generalize decide (subs.length = subs'.length) = q at *
    by_cases t1 : k1 = k2
    case' neg => have e1 : (k1 != k2) = true := by simpa using t1
    case' pos =>
      subst t1
      cases ws
      case' true =>
        by_cases t3 : n1 = n2
        case' neg => have e1 : (n1 != n2) = true := by simpa using t3
        case' pos =>
          subst t3
          by_cases t4 : m1 = m2
          case' neg => have e1 : (m1 != m2) = true := by simpa using t4
          case' pos =>
            subst t4
            by_cases t5 : x1 = x2
            case' neg => have e1 : (x1 != x2) = true := by simpa using t5
            case' pos =>
              subst t5
              cases b1 <;> cases b2 <;> cases q
              all_goals
                simp only [Bool.not_true, Bool.not_false] at e0
    all_goals
      go_wp2
      all_goals
        go_meet
        case rel => exact ⟨by rw [hS.out]; first | (simp; done) | (simp [*]; done), rfl⟩
  obtain ⟨rfl, rfl⟩ := hcut
  clear hb2 hc
  cases hS : (sameH hd hd' && decide (subs.length = subs'.length))
  · have HR2 := Lib.hid (show res = false by rw [HR.out, hS, Bool.false_and])
    clear HR IH HN HN' hS
    go_wp2
    go_ret
    exact ⟨by rw [HR2.out]; rfl, hx12⟩
  · have HR2 := Lib.hid (show res = sameL subs subs' by rw [HR.out, hS, Bool.true_and])
    have hll : subs.length = subs'.length := by
      rw [Bool.and_eq_true, decide_eq_true_eq] at hS
      exact hS.2
    have HLL := Lib.hid hll
    clear HR hS hll
    have hx22 : Ext w2 w2 := Ext.refl w2
    simp only [Bool.not_true]
    go_wp2
    go_loopw [58] (fun i wr => ∃ k : Nat, k ≤ subs.length ∧ i = .int .i64 k ∧ sameL (subs.take k) (subs'.take k) = true ∧ Ext w2 wr) (fun i _ => subs.length - (intOf i).toNat)
    case atStart => exact ⟨0, Nat.zero_le _, rfl, by rw [List.take_zero, sameL], hx22⟩
    case round =>
      clear hx22
      obtain ⟨k, hk, rfl, hfl, hx⟩ := hrel
      have HL := Lib.hid hfl
      clear hfl
      replace c5 := hx.cell c5
      replace d5 := hx.cell d5
      by_cases hlt : k < subs.length
      · have hlt' : k < subs'.length := HLL.out ▸ hlt
        obtain ⟨g0, o0, sv, rfl, hat, hok⟩ := HN.out.get k hlt
        obtain ⟨g1, o1, sv', rfl, hat', hok'⟩ := HN'.out.get k hlt'
        have hxw := hx12.trans hx
        replace hat := (hat.ext hxw).drew
        replace hat' := (hat'.ext hxw).drew
        have HST := Lib.hid (sameL_step hlt hlt' HL.out)
        have HEN := Lib.hid (fun h => sameL_stop hlt hlt' h)
        have IHk := Lib.hid (IH.out subs[k] (List.getElem_mem hlt) sv subs'[k] sv' wr.drew (NdOk.ext hxw.drewr _ _ hok) (NdOk.ext hxw.drewr _ _ hok'))
        clear IH HN HN' HL hok hok'
        generalize sameN subs[k] subs'[k] = pk at *
        generalize subs[k] = nk at *
        generalize subs'[k] = nk' at *
        have t1 : (k : Int) < (subs.length : Int) := by omega
        have t2 : (k : Int) < (subs'.length : Int) := by omega
        go_upto_region 6 with fail
        refine wp_region_still_tail 10 (by kernel_rfl) (by kernel_rfl) ?_
        simp only [List.take_succ_cons, List.take_zero, List.drop_succ_cons, List.drop_zero]
        repeat still_step
        refine wpStill_loadNd _ rfl rfl g0 (o0 + k * 10) _ sv rfl hat ?_
        repeat still_step
        refine wpStill_loadNd _ rfl rfl g1 (o1 + k * 10) _ sv' rfl hat' ?_
        repeat still_step
        refine wpStill_nil ?_
        change wpList _ _ _ _ _ wr.drew
        clear hat hat'
        cases pk
        all_goals
          go_wp2_with (go_at_call 24; refine IHk.out.mono ?_; rintro e w6 ⟨rfl, hx6⟩)
        · go_ret
          exact ⟨by rw [HR2.out, HEN.out trivial]; rfl, hxw.drewr.trans hx6⟩
        · go_roundw
          case rel => exact ⟨k + 1, by omega, by go_num, HST.out, hx.drewr.trans hx6⟩
          case measure => simp [intOf]; omega
      · have hkl : subs.take k = subs := List.take_of_length_le (by omega)
        have hkl' : subs'.take k = subs' := List.take_of_length_le (by have := HLL.out; omega)
        rw [hkl, hkl'] at HL
        have t1 : ¬ (k : Int) < (subs.length : Int) := by omega
        clear IH HN HN' hkl hkl'
        go_wp2
        go_ret
        exact ⟨by rw [HR2.out, HL.out]; rfl, hx12.trans hx⟩

set_option maxRecDepth 100000 in
set_option maxHeartbeats 8000000 in
theorem sameR_any : ∀ (a : Nd) (sva : Value) (b : Nd) (svb : Value) (w : World), NdOk w a sva → NdOk w b svb → smallN a →
    Calls Tryd.prog 130 #[nodeV a.h sva, nodeV b.h svb] w fun r w' => r = .returned (.bool (sameN a b)) ∧ Ext w w' := by
  refine Nd.ind fun hd subs ih sva b svb w hn hn' hsm => ?_
  obtain ⟨hd', subs'⟩ := b
  obtain ⟨A, c, rfl⟩ := hn.shape
  obtain ⟨A', c', rfl⟩ := hn'.shape
  obtain ⟨hlen, hsm⟩ := hsm
  have IH := Lib.hid (fun n hm sv b svb w hn hn' => ih n hm sv b svb w hn hn' (smallL_mem hsm n hm))
  have HN := Lib.hid hn
  have HN' := Lib.hid hn'
  have HR := Lib.hid (by rw [sameN] : sameN (.mk hd subs) (.mk hd' subs') = (sameH hd hd' && decide (subs.length = subs'.length) && sameL subs subs'))
  clear ih hsm hn hn'
  generalize sameN (.mk hd subs) (.mk hd' subs') = res at *
  simp only [Nd.h, Nd.subs] at *
  go_enter Tryd.func130, Tryd.ntmps130
  go_upto_region 1 with (first
    | (refine wpl_boxNd rfl _ rfl hd _ rfl ?_; intro x w1 hb hx1 ex sx)
    | (refine wpl_boxNd rfl _ rfl hd' _ rfl ?_; intro y w2 hc hx2 ey sy))
  have hb2 := hb.ext hx2
  have hx12 := hx1.trans hx2
  clear hb hx1 hx2 ex sx ey sy
  have c5 : w2.cell? ⟨x, 5, none⟩ = some (.slice A subs.length c) := hb2.cell 5
  have d5 : w2.cell? ⟨y, 5, none⟩ = some (.slice A' subs'.length c') := hc.cell 5
  go_cut [55] (fun v wx => v = .bool (!(sameH hd hd' && decide (subs.length = subs'.length))) ∧ w2 = wx)
  case first =>
    have c0 : w2.cell? ⟨x, 0, none⟩ = some (.int .i64 hd.kind) := hb2.cell 0
    have c1 : w2.cell? ⟨x, 1, none⟩ = some (.int .u64 (wd hd.set 0 : Int)) := hb2.cell 1
    have c2 : w2.cell? ⟨x, 2, none⟩ = some (.int .u64 (wd hd.set 1 : Int)) := hb2.cell 2
    have c3 : w2.cell? ⟨x, 3, none⟩ = some (.int .u64 (wd hd.set 2 : Int)) := hb2.cell 3
    have c4 : w2.cell? ⟨x, 4, none⟩ = some (.int .u64 (wd hd.set 3 : Int)) := hb2.cell 4
    have c6 : w2.cell? ⟨x, 6, none⟩ = some (.int .i64 hd.num) := hb2.cell 6
    have c7 : w2.cell? ⟨x, 7, none⟩ = some (.int .i64 hd.min) := hb2.cell 7
    have c8 : w2.cell? ⟨x, 8, none⟩ = some (.int .i64 hd.max) := hb2.cell 8
    have c9 : w2.cell? ⟨x, 9, none⟩ = some (.bool hd.bare) := hb2.cell 9
    have d0 : w2.cell? ⟨y, 0, none⟩ = some (.int .i64 hd'.kind) := hc.cell 0
    have d1 : w2.cell? ⟨y, 1, none⟩ = some (.int .u64 (wd hd'.set 0 : Int)) := hc.cell 1
    have d2 : w2.cell? ⟨y, 2, none⟩ = some (.int .u64 (wd hd'.set 1 : Int)) := hc.cell 2
    have d3 : w2.cell? ⟨y, 3, none⟩ = some (.int .u64 (wd hd'.set 2 : Int)) := hc.cell 3
    have d4 : w2.cell? ⟨y, 4, none⟩ = some (.int .u64 (wd hd'.set 3 : Int)) := hc.cell 4
    have d6 : w2.cell? ⟨y, 6, none⟩ = some (.int .i64 hd'.num) := hc.cell 6
    have d7 : w2.cell? ⟨y, 7, none⟩ = some (.int .i64 hd'.min) := hc.cell 7
    have d8 : w2.cell? ⟨y, 8, none⟩ = some (.int .i64 hd'.max) := hc.cell 8
    have d9 : w2.cell? ⟨y, 9, none⟩ = some (.bool hd'.bare) := hc.cell 9
    have hne := neq_set hd.set hd'.set
    have hS := Lib.hid (show sameH hd hd' = (decide (hd.kind = hd'.kind) && wordsB hd.set hd'.set && decide (hd.num = hd'.num) && decide (hd.min = hd'.min) && decide (hd.max = hd'.max) && (hd.bare == hd'.bare)) from rfl)
    clear HR IH HN HN' hb2 hc hx12
    generalize sameH hd hd' = sh at *
    generalize hd.kind = k1 at *
    generalize hd'.kind = k2 at *
    generalize hd.num = n1 at *
    generalize hd'.num = n2 at *
    generalize hd.min = m1 at *
    generalize hd'.min = m2 at *
    generalize hd.max = x1 at *
    generalize hd'.max = x2 at *
    generalize hd.bare = b1 at *
    generalize hd'.bare = b2 at *
    generalize wordsB hd.set hd'.set = ws at *
    have e0 : ((subs.length : Int) != (subs'.length : Int)) = !decide (subs.length = subs'.length) := by
      by_cases h : subs.length = subs'.length
      · simp [h]
      · have h2 : ¬ ((subs.length : Int) = (subs'.length : Int)) := by omega
        simp [h, h2]
    generalize decide (subs.length = subs'.length) = q at *
    by_cases t1 : k1 = k2
    case' neg => have e1 : (k1 != k2) = true := by simpa using t1
    case' pos =>
      subst t1
      cases ws
      case' true =>
        by_cases t3 : n1 = n2
        case' neg => have e1 : (n1 != n2) = true := by simpa using t3
        case' pos =>
          subst t3
          by_cases t4 : m1 = m2
          case' neg => have e1 : (m1 != m2) = true := by simpa using t4
          case' pos =>
            subst t4
            by_cases t5 : x1 = x2
            case' neg => have e1 : (x1 != x2) = true := by simpa using t5
            case' pos =>
              subst t5
              cases b1 <;> cases b2 <;> cases q
              all_goals
                simp only [Bool.not_true, Bool.not_false] at e0
    all_goals
      go_wp2
      all_goals
        go_meet
        case rel => exact ⟨by rw [hS.out]; first | (simp; done) | (simp [*]; done), rfl⟩
  obtain ⟨rfl, rfl⟩ := hcut
  clear hb2 hc
  cases hS : (sameH hd hd' && decide (subs.length = subs'.length))
  · have HR2 := Lib.hid (show res = false by rw [HR.out, hS, Bool.false_and])
    clear HR IH HN HN' hS
    go_wp2
    go_ret
    exact ⟨by rw [HR2.out]; rfl, hx12⟩
  · have HR2 := Lib.hid (show res = sameL subs subs' by rw [HR.out, hS, Bool.true_and])
    have hll : subs.length = subs'.length := by
      rw [Bool.and_eq_true, decide_eq_true_eq] at hS
      exact hS.2
    have HLL := Lib.hid hll
    clear HR hS hll
    have hx22 : Ext w2 w2 := Ext.refl w2
    simp only [Bool.not_true]
    go_wp2
    go_loopw [5] (fun i wr => ∃ k : Nat, k ≤ subs.length ∧ i = .int .i64 k ∧ sameL (subs.take k) (subs'.take k) = true ∧ Ext w2 wr) (fun i _ => subs.length - (intOf i).toNat)
    case atStart => exact ⟨0, Nat.zero_le _, rfl, by rw [List.take_zero, sameL], hx22⟩
    case round =>
      clear hx22
      obtain ⟨k, hk, rfl, hfl, hx⟩ := hrel
      have HL := Lib.hid hfl
      clear hfl
      replace c5 := hx.cell c5
      replace d5 := hx.cell d5
      by_cases hlt : k < subs.length
      · have hlt' : k < subs'.length := HLL.out ▸ hlt
        obtain ⟨g0, o0, sv, rfl, hat, hok⟩ := HN.out.get k hlt
        obtain ⟨g1, o1, sv', rfl, hat', hok'⟩ := HN'.out.get k hlt'
        have hxw := hx12.trans hx
        replace hat := (hat.ext hxw).drew
        replace hat' := (hat'.ext hxw).drew
        have HST := Lib.hid (sameL_step hlt hlt' HL.out)
        have HEN := Lib.hid (fun h => sameL_stop hlt hlt' h)
        have IHk := Lib.hid (IH.out subs[k] (List.getElem_mem hlt) sv subs'[k] sv' wr.drew (NdOk.ext hxw.drewr _ _ hok) (NdOk.ext hxw.drewr _ _ hok'))
        clear IH HN HN' HL hok hok'
        generalize sameN subs[k] subs'[k] = pk at *
        generalize subs[k] = nk at *
        generalize subs'[k] = nk' at *
        have t1 : (k : Int) < (subs.length : Int) := by omega
        have t2 : (k : Int) < (subs'.length : Int) := by omega
        go_upto_region 6 with fail
        refine wp_region_still_tail 10 (by kernel_rfl) (by kernel_rfl) ?_
        simp only [List.take_succ_cons, List.take_zero, List.drop_succ_cons, List.drop_zero]
        repeat still_step
        refine wpStill_loadNd _ rfl rfl g0 (o0 + k * 10) _ sv rfl hat ?_
        repeat still_step
        refine wpStill_loadNd _ rfl rfl g1 (o1 + k * 10) _ sv' rfl hat' ?_
        repeat still_step
        refine wpStill_nil ?_
        change wpList _ _ _ _ _ wr.drew
        clear hat hat'
        cases pk
        all_goals
          go_wp2_with (go_at_call 130; refine IHk.out.mono ?_; rintro e w6 ⟨rfl, hx6⟩)
        · go_ret
          exact ⟨by rw [HR2.out, HEN.out trivial]; rfl, hxw.drewr.trans hx6⟩
        · go_roundw
          case rel => exact ⟨k + 1, by omega, by go_num, HST.out, hx.drewr.trans hx6⟩
          case measure => simp [intOf]; omega
      · have hkl : subs.take k = subs := List.take_of_length_le (by omega)
        have hkl' : subs'.take k = subs' := List.take_of_length_le (by have := HLL.out; omega)
        rw [hkl, hkl'] at HL
        have t1 : ¬ (k : Int) < (subs.length : Int) := by omega
        clear IH HN HN' hkl hkl'
        go_wp2
        go_ret
        exact ⟨by rw [HR2.out, HL.out]; rfl, hx12.trans hx⟩

end Go.Proofs.YtkcgbdoplhgbmaaDoor

namespace Go.Proofs.YtkcgbdoplhgbmaaDoor
open Go Go.RowKit

/-- Where the list's set stands: -1: nowhere. -/
def AtOk (out : List Nd) (a : Int) : Prop := (a = -1 ∧ bytesIn out = false) ∨ ∃ i : Nat, a = i ∧ i < out.length ∧ ∀ j n, out[j]? = some n → (n.h.kind = 2 ↔ j = i)
theorem AtOk.nil : AtOk [] (-1) := .inl ⟨rfl, rfl⟩
theorem bytes_no {out : List Nd} (h : bytesIn out = false) : ∀ n ∈ out, n.h.kind ≠ 2 := fun n hn => by
  unfold bytesIn at h
  rw [List.any_eq_false] at h
  simpa using h n hn
theorem AtOk.snoc {out : List Nd} {a : Int} {s : Nd} (h : AtOk out a) (hs : s.h.kind ≠ 2) : AtOk (out ++ [s]) a := by
  rcases h with ⟨rfl, h⟩ | ⟨i, rfl, hi, h⟩
  · exact .inl ⟨rfl, by rw [bytes_snoc, h, decide_eq_false hs]; rfl⟩
  · refine .inr ⟨i, rfl, by simp; omega, fun j n hj => ?_⟩
    rcases Nat.lt_or_ge j out.length with hl | hl
    · rw [List.getElem?_append_left hl] at hj
      exact h j n hj
    · rw [List.getElem?_append_right hl] at hj
      obtain ⟨h1, h2⟩ := List.getElem?_eq_some_iff.1 hj
      simp only [List.length_singleton] at h1
      simp only [show j - out.length = 0 by omega, List.getElem_cons_zero] at h2
      subst h2
      exact ⟨fun h => absurd h hs, fun h => by omega⟩
theorem AtOk.first {out : List Nd} {s : Nd} (h : bytesIn out = false) (hs : s.h.kind = 2) : AtOk (out ++ [s]) out.length := by
  refine .inr ⟨out.length, rfl, by simp, fun j n hj => ?_⟩
  rcases Nat.lt_or_ge j out.length with hl | hl
  · rw [List.getElem?_append_left hl] at hj
    exact ⟨fun hk => absurd hk (bytes_no h n (List.mem_of_getElem? hj)), fun h => by omega⟩
  · rw [List.getElem?_append_right hl] at hj
    obtain ⟨h1, h2⟩ := List.getElem?_eq_some_iff.1 hj
    simp only [List.length_singleton] at h1
    simp only [show j - out.length = 0 by omega, List.getElem_cons_zero] at h2
    subst h2
    exact ⟨fun _ => by omega, fun _ => hs⟩
theorem AtOk.bytes {out : List Nd} {i : Nat} (h : AtOk out (i : Int)) : bytesIn out = true := by
  rcases h with ⟨h, _⟩ | ⟨k, h1, hk, h⟩
  · omega
  · obtain rfl : k = i := by omega
    unfold bytesIn
    rw [List.any_eq_true]
    exact ⟨out[k], List.getElem_mem hk, by rw [decide_eq_true_eq]; exact (h k _ (List.getElem?_eq_getElem hk)).2 rfl⟩
theorem AtOk.join {out : List Nd} {i : Nat} (h : AtOk out (i : Int)) (p : Nat → Bool) : ∃ m, out[i]? = some m ∧ m.h.kind = 2 ∧ joinAt out p = out.set i (setOf m (orS m.h.set p)) ∧ AtOk (joinAt out p) i := by
  rcases h with ⟨h, _⟩ | ⟨k, h1, hk, h⟩
  · omega
  · obtain rfl : k = i := by omega
    have hm := List.getElem?_eq_getElem hk
    have hk2 := (h k _ hm).2 rfl
    refine ⟨out[k], hm, hk2, ?_, .inr ⟨k, rfl, by unfold joinAt; simpa using hk, fun j n hj => ?_⟩⟩
    · refine List.ext_getElem? fun j => ?_
      unfold joinAt
      rw [List.getElem?_map, List.getElem?_set]
      by_cases hjk : k = j
      · subst hjk
        rw [if_pos rfl, if_pos hk, hm]
        simp only [Option.map_some]
        rw [if_pos hk2]
      · rw [if_neg hjk]
        cases hj : out[j]? with
        | none => rfl
        | some n =>
          have : ¬ n.h.kind = 2 := fun he => hjk ((h j n hj).1 he).symm
          simp only [Option.map_some]
          rw [if_neg this]
    · unfold joinAt at hj
      rw [List.getElem?_map] at hj
      obtain ⟨n', hn', rfl⟩ := Option.map_eq_some_iff.1 hj
      rw [← h j n' hn']
      by_cases hk' : n'.h.kind = 2
      · rw [if_pos hk']; exact Iff.rfl
      · rw [if_neg hk']

section
variable {ops : Array Oper} {rest : List Oper} {o : Oper} {a : Act} {w : World} {Q : Exit → Act → World → Prop}
theorem LstIn.turn {w w1 : World} {B g n c : Nat} {l : List (Nd × Value)} {i : Nat} {m : Nd} {sm : Value} {p : Nat → Bool} (h : LstIn w B (.slice (some ⟨g, 0, none⟩) n c) l) (hi : l[i]? = some (m, sm))
    (ho : OwnR w1 B 27 10 (.slice (some ⟨g, 0, none⟩) n c) ((l.map fun x => nodeC x.1.h x.2).set i (nodeC (setOf m p).h sm))) (hg : w.grownBy w1 (some g)) : LstIn w1 B (.slice (some ⟨g, 0, none⟩) n c) (l.set i (setOf m p, sm)) := by
  have hk : ∀ {m : Nd} {sm : Value}, NdIn w (Off w (.slice (some ⟨g, 0, none⟩) n c)) m sm → NdIn w1 (Off w1 (.slice (some ⟨g, 0, none⟩) n c)) m sm := fun hm => hm.keep fun b hb =>
    ⟨sameAt_of_block (hg.block b hb.1 (fun e => hb.2 e.symm)), Nat.lt_of_lt_of_le hb.1 hg.size, hb.2⟩
  refine ⟨by rw [List.map_set]; exact ho, fun x hx => ?_⟩
  rcases List.mem_or_eq_of_mem_set hx with hx | rfl
  · exact hk (h.kid x hx)
  · have := hk (h.kid _ (List.mem_of_getElem? hi))
    obtain ⟨mh, ms⟩ := m
    exact this
/-- The store of a node's set in a list of the call's own. -/
theorem wpl_setSet (hgd : o.guard = none) (x y : Operand) (ho : o.op = .store 24 x y) (hd : o.dst = none) (B g n c : Nat) (l : List (Nd × Value)) (i : Nat) (m : Nd) (sm : Value) (p : Nat → Bool) (hi : l[i]? = some (m, sm)) (hx : a.eval x = .pointer (some ⟨g, i * 10 + 1, none⟩)) (hy : a.eval y = .agg #[.int .u64 (wd p 0 : Int), .int .u64 (wd p 1 : Int), .int .u64 (wd p 2 : Int), .int .u64 (wd p 3 : Int)])
    (hL : LstIn w B (.slice (some ⟨g, 0, none⟩) n c) l)
    (hK : ∀ w1, LstIn w1 B (.slice (some ⟨g, 0, none⟩) n c) (l.set i (setOf m p, sm)) → w.grownBy w1 (some g) → wpList Tryd.prog ops Q rest a w1) : wpList Tryd.prog ops Q (o :: rest) a w := by
  have hpa : a.put o.dst undef = a := by rw [hd]; rfl
  rw [← hpa] at hK
  have hr : (l.map fun x => nodeC x.1.h x.2)[i]? = some (nodeC m.h sm) := by rw [List.getElem?_map, hi]; rfl
  have hil : i < (l.map fun x => nodeC x.1.h x.2).length := (List.getElem?_eq_some_iff.1 hr).1
  have hs : w.setCells g (i * 10 + 1) [.int .u64 (wd p 0 : Int), .int .u64 (wd p 1 : Int), .int .u64 (wd p 2 : Int), .int .u64 (wd p 3 : Int)] = (((w.setCell ⟨g, i * 10 + 1, none⟩ (.int .u64 (wd p 0 : Int))).setCell ⟨g, i * 10 + 2, none⟩ (.int .u64 (wd p 1 : Int))).setCell ⟨g, i * 10 + 3, none⟩ (.int .u64 (wd p 2 : Int))).setCell ⟨g, i * 10 + 4, none⟩ (.int .u64 (wd p 3 : Int)) := rfl
  obtain ⟨a1, b1⟩ := hL.own.store1 i _ hr 1 (by decide) (.int .u64 (wd p 0 : Int))
  obtain ⟨a2, b2⟩ := a1.store1 i _ (List.getElem?_set_self hil) 2 (by decide) (.int .u64 (wd p 1 : Int))
  rw [List.set_set] at a2
  obtain ⟨a3, b3⟩ := a2.store1 i _ (List.getElem?_set_self hil) 3 (by decide) (.int .u64 (wd p 2 : Int))
  rw [List.set_set] at a3
  obtain ⟨a4, b4⟩ := a3.store1 i _ (List.getElem?_set_self hil) 4 (by decide) (.int .u64 (wd p 3 : Int))
  rw [List.set_set] at a4
  have hg := ((b1.trans b2).trans b3).trans b4
  refine wpList_store_mid hgd 24 x y ho g (i * 10 + 1) _ hx hy (fun j hj => ⟨?_, hL.own.frozen _⟩) (info_setC p) (by simp [Value.oneCell']) (hK _ ?_ ?_)
  · have hj4 : j < 4 := hj
    rw [Nat.add_assoc, hL.own.cell i _ hr (1 + j) (by omega)]
    rcases (show j = 0 ∨ j = 1 ∨ j = 2 ∨ j = 3 from by omega) with rfl | rfl | rfl | rfl <;> rfl
  · rw [hs]
    exact hL.turn hi a4 hg
  · rw [hs]
    exact hg
/-- The address of a node's set. -/
theorem wpl_setAddr (hgd : o.guard = none) (x : Operand) (ho : o.op = .fieldAddr 27 x 1) (g k : Nat) (hx : a.eval x = .pointer (some ⟨g, k, none⟩))
    (hK : wpList Tryd.prog ops Q rest (a.put o.dst (.pointer (some ⟨g, k + 1, none⟩))) w) : wpList Tryd.prog ops Q (o :: rest) a w :=
  wpList_plain hgd fun _ hKK => by
    have hr : (execOp a.eval o).run Tryd.prog w = .ok (.value (.pointer (some ⟨g, k + 1, none⟩))) w := by
      unfold execOp
      rw [ho]
      simp only [hx, Instr.fieldAt, Instr.sureAddr, Sem.run_bind, Sem.run_pure, Result.andThen_ok, run_underlying Tryd.underlying27]
      simp [fieldPlace, Addr.add]
    unfold Oper.wp
    rw [hr]
    exact hKK _ _ hK
end
theorem joinL_or (p q : Nat → Bool) : joinL [p, q] = orS p q := by
  funext b
  simp [joinL, orS]

end Go.Proofs.YtkcgbdoplhgbmaaDoor

namespace Go.Proofs.YtkcgbdoplhgbmaaDoor
open Go Go.RowKit

section
variable {P : Program} {ops : Array Oper} {md : Region.Mode} {C : World → Prop}

/-- f operations of the first n, whichever come up. -/
def headQ (P : Program) (md : Region.Mode) (ops : Array Oper) (C : World → Prop) (n : Nat) (L : Array Bool → Act → Prop) : Nat → Array Bool → Act → Prop
  | 0, listed, a => L listed a
  | f + 1, listed, a => Region.ready md ops listed ≠ [] ∧ ∀ i ∈ Region.ready md ops listed, i < n ∧ qOp P ops C i (headQ P md ops C n L f (listed.setIfInBounds i true)) a

theorem any_of_headQ {n g : Nat} {L : Array Bool → Act → Prop} {Q' : Exit → Act → World → Prop} (hL : ∀ listed a w, C w → L listed a → wpAny P md ops Q' g listed a w) :
    ∀ (f : Nat) (listed : Array Bool) (a : Act) (w : World), C w → headQ P md ops C n L f listed a → wpAny P md ops Q' (f + g) listed a w
  | 0, listed, a, w, hw, h => by rw [Nat.zero_add]; exact hL _ _ _ hw h
  | f + 1, listed, a, w, hw, h => by
    have e : f + 1 + g = (f + g) + 1 := by omega
    rw [e]
    exact ⟨fun h0 => absurd h0 h.1, fun i hi => wpOp_of_qOp hw (fun a' w' hw' h' => any_of_headQ hL f _ a' w' hw' h') (h.2 i hi).2⟩

theorem headQ_first {n i : Nat} {oi : Oper} {v : Value} {L : Array Bool → Act → Prop} (hi : ops[i]? = some oi) (hsel : ∀ (j : Nat) (o : Oper) cs b, ops[j]? = some o → o.op ≠ .select cs b)
    (hs : Region.sinkB md ops n = true) (hc : Region.chainB md ops n = true) (hn : n < ops.size) (hin : i < n)
    (hdone : ∀ listed a, L listed a → ∀ j ∈ Region.ready md ops listed, n ≤ j) :
    ∀ (f : Nat) (listed : Array Bool) (a : Act), HeadInv md ops n listed →
      (∀ j oj, ops[j]? = some oj → j ≠ i → listed.getD j true = false → (∀ e ∈ oj.after, Region.binds md e = true → e.on ≠ i) → oi.apart ops oj = true) →
      i ∈ Region.ready md ops listed → YieldsIn P ops C oi v a →
      headQ P md ops C n L f (listed.setIfInBounds i true) (a.put oi.dst v) → headQ P md ops C n L (f + 1) listed a := by
  intro f
  induction f with
  | zero =>
    intro listed a inv _ hr hy H
    refine ⟨fun h => (by rw [h] at hr; cases hr), fun j hj => ?_⟩
    have hjn : j < n := by
      rcases Nat.lt_or_ge j n with h | h
      · exact h
      · exact absurd hj (tail_waits hs hc hn inv _ i rfl hin (mem_ready.1 hr).1 j h)
    refine ⟨hjn, ?_⟩
    by_cases hji : j = i
    · subst hji; exact hy.qOp hi H
    · have := hdone _ _ H j (ready_mono hj hji)
      omega
  | succ f ih =>
    intro listed a inv hfree hr hy H
    have hun := (mem_ready.1 hr).1
    refine ⟨fun h => (by rw [h] at hr; cases hr), fun j hj => ?_⟩
    have hjn : j < n := by
      rcases Nat.lt_or_ge j n with h | h
      · exact h
      · exact absurd hj (tail_waits hs hc hn inv _ i rfl hin hun j h)
    refine ⟨hjn, ?_⟩
    by_cases hji : j = i
    · subst hji; exact hy.qOp hi H
    · have h1 := (H.2 j (ready_mono hj hji)).2
      obtain ⟨hjun, oj, hoj, hall⟩ := mem_ready.1 hj
      have hnot : ∀ e ∈ oj.after, Region.binds md e = true → e.on ≠ i := fun e he hb heq => by
        have h1 := hall e he hb
        rw [heq, getD_both hun] at h1
        cases h1
      have h2 := qOp_put hoj (hfree j oj hoj hji hjun hnot) (fun cs b => hsel i oi cs b hi) (fun cs b => hsel j oj cs b hoj) hy h1
      refine qOp_mono (fun a' h3 => ih (listed.setIfInBounds j true) a' (inv.set hj hjn) (fun k ok hk hki hk2 hno => ?_) (ready_mono hr (Ne.symm hji)) h3.1 ?_) h2
      · refine hfree k ok hk hki ?_ hno
        by_cases hjk : j = k
        · subst hjk; exact hjun
        · rw [getD_set_ne true hjk] at hk2; exact hk2
      · rw [Array.setIfInBounds_comm _ _ hji]
        exact h3.2

theorem headQ_lex {n g : Nat} {Lq : Act → Prop} (hsel : Region.noSelect ops = true) (hs : Region.sinkB md ops n = true) (hc : Region.chainB md ops n = true) (hn : n < ops.size) :
    ∀ (l : List Oper) (k : Nat) (listed : Array Bool) (a : Act), (∀ j, j < l.length → l[j]? = ops[k + j]?) → k + l.length = n → HeadInv md ops n listed →
    Region.lexHead md ops g l.length k listed = true → wpQuiet P ops C Lq l a →
    headQ P md ops C n (fun listed' a' => Region.seqB md ops g n listed' = true ∧ Lq a') l.length listed a
  | [], k, listed, a, _, hk, _, hB, h => by
    have : k = n := by simpa using hk
    subst this
    exact ⟨by simpa [Region.lexHead] using hB, h⟩
  | o :: l, k, listed, a, hl, hk, inv, hB, h => by
    have h0 : ops[k]? = some o := by simpa using (hl 0 (by simp)).symm
    simp only [List.length_cons, Region.lexHead, Bool.and_eq_true] at hB
    obtain ⟨⟨hr, hf⟩, hB'⟩ := hB
    have hkn : k < n := by simp only [List.length_cons] at hk; omega
    have hr' : k ∈ Region.ready md ops listed := by simpa using hr
    have hst : qOp P ops C k (wpQuiet P ops C Lq l) a := by unfold qOp; simp only [h0]; exact h
    obtain ⟨v, hy, hK⟩ := yieldsIn_of_qOp h0 hst
    exact headQ_first h0 (Region.noSelect_spec hsel) hs hc hn hkn (fun listed' a' hL => seqB_ready hL.1) l.length listed a inv (Region.free_spec h0 hf) hr' hy
      (headQ_lex hsel hs hc hn l (k + 1) _ _ (fun j hj => by have := hl (j + 1) (by simp; omega); simpa [Nat.add_assoc, Nat.add_comm 1 j] using this) (by simp only [List.length_cons] at hk; omega) (inv.set hr' hkn) hB' hK)
end

/-- The law: the first n operations in every world of the class, what comes behind them from every such world. -/
theorem wp_region_quiet_tail {P : Program} {C : World → Prop} {id : Nat} {Q : Exit → Act → World → Prop} {a : Act} {w : World} {l : List Oper} (n : Nat) (hm : P.follows .mixedOrders = true) (hB : Region.lexTailB .any l.toArray n = true)
    (hC : C { w with drawn := w.drawn + 1 }) (h : wpQuiet P l.toArray C (fun a' => ∀ w', C w' → wpList P l.toArray Q (l.drop n) a' w') (l.take n) a) : (Code.region id l.toArray true).wp P Q a w := by
  simp only [Region.lexTailB, Bool.and_eq_true, decide_eq_true_eq] at hB
  obtain ⟨⟨⟨⟨hsel, hn⟩, hs⟩, hc⟩, hlex⟩ := hB
  have hn' : n < l.length := by simpa using hn
  have htl : (l.take n).length = n := by simp; omega
  have hdl : (l.drop n).length = l.toArray.size - n := by simp
  have inv0 : HeadInv .any l.toArray n (Array.replicate l.toArray.size false) :=
    ⟨by simp, fun j oj _ hl => (by rw [getD_replicate_false] at hl; cases hl), fun t _ ht => getD_in (by simpa using ht) (getD_replicate_false _ _)⟩
  have H := headQ_lex (md := .any) (g := l.toArray.size - n) hsel hs hc hn (l.take n) 0 _ a (fun j hj => by
    have hj' : j < n := by rw [htl] at hj; exact hj
    simp [hj']) (by simpa using htl) inv0 (by rw [htl]; exact hlex) h
  refine wp_region_any hm ?_
  have := any_of_headQ (Q' := Q) (g := l.toArray.size - n) (fun listed a' w' hw' hL => by
    have := wpAny_of_seq (md := .any) (Q' := Q) (l.drop n) n listed a' w' (fun j => by simp [List.getElem?_drop]) (by rw [hdl]; exact hL.1) (hL.2 w' hw')
    rwa [hdl] at this) _ _ _ _ hC H
  rw [htl, show n + (l.toArray.size - n) = l.toArray.size by omega] at this
  exact this
/-- At the class 'every world that extends w'. -/
theorem wp_region_plus_tail {P : Program} {id : Nat} {Q : Exit → Act → World → Prop} {a : Act} {w : World} {l : List Oper} (n : Nat) (hm : P.follows .mixedOrders = true) (hB : Region.lexTailB .any l.toArray n = true)
    (h : wpQuiet P l.toArray (fun w' => ∃ x : Ex w, w' = plus w x) (fun a' => ∀ x : Ex w, wpList P l.toArray Q (l.drop n) a' (plus w x)) (l.take n) a) : (Code.region id l.toArray true).wp P Q a w := by
  refine wp_region_quiet_tail (C := fun w' => ∃ x : Ex w, w' = plus w x) n hm hB (ext_plus (Ext.refl w).drew) ?_
  have e : (fun a' => ∀ w', (∃ x : Ex w, w' = plus w x) → wpList P l.toArray Q (l.drop n) a' w') = (fun a' => ∀ x : Ex w, wpList P l.toArray Q (l.drop n) a' (plus w x)) := by
    funext a'
    exact propext ⟨fun h x => h _ ⟨x, rfl⟩, fun h w' ⟨x, hx⟩ => hx ▸ h x⟩
  rw [e]
  exact h

end Go.Proofs.YtkcgbdoplhgbmaaDoor

namespace Go.Proofs.YtkcgbdoplhgbmaaDoor
open Go.RowKit

theorem min_if (a : Int) : Min.min a 2001 = if 2001 < a then 2001 else a := by rw [Int.min_def]; split <;> split <;> omega
theorem node_cells0 {W : World} {b : Nat} {t : TypeId} {v0 v1 v2 v3 v4 v5 v6 v7 v8 v9 : Value} (h : Blk W b t #[v0, v1, v2, v3, v4, v5, v6, v7, v8, v9]) :
    W.cell? ⟨b, 0, none⟩ = some v0 ∧ W.cell? ⟨b, 1, none⟩ = some v1 ∧ W.cell? ⟨b, 2, none⟩ = some v2 ∧ W.cell? ⟨b, 3, none⟩ = some v3 ∧ W.cell? ⟨b, 4, none⟩ = some v4 ∧ W.cell? ⟨b, 5, none⟩ = some v5 ∧ W.cell? ⟨b, 6, none⟩ = some v6 ∧ W.cell? ⟨b, 7, none⟩ = some v7 ∧ W.cell? ⟨b, 8, none⟩ = some v8 ∧ W.cell? ⟨b, 9, none⟩ = some v9 :=
  ⟨h.cell 0, h.cell 1, h.cell 2, h.cell 3, h.cell 4, h.cell 5, h.cell 6, h.cell 7, h.cell 8, h.cell 9⟩

set_option maxRecDepth 100000 in
set_option maxHeartbeats 4000000 in
theorem size_any : ∀ (n : Nd) (sv : Value) (w : World), NdOk w n sv → smallN n → formB n = true →
    Calls Tryd.prog 65 #[nodeV n.h sv] w fun r w' => r = .returned (.int .i64 (sizeN n)) ∧ Ext w w' := by
  refine Nd.ind fun hd subs ih sv w hn hsm hfm => ?_
  unfold NdOk at hn
  obtain ⟨A, c, rfl, hs⟩ := hn
  obtain ⟨hlen, hsm⟩ := hsm
  rw [formB, Bool.and_eq_true] at hfm
  obtain ⟨hfd, hfl⟩ := hfm
  have IH := Lib.hid (fun n hm sv w hn hf => ih n hm sv w hn (smallL_mem hsm n hm) hf)
  have HS := Lib.hid hs
  have HFL := Lib.hid hfl
  clear ih hs hsm hfl
  show Calls _ _ #[nodeV hd _] _ _
  have hrep := fun hk => formed_rep hfd hk
  have hsz : sizeN (.mk hd subs) = if hd.kind = 8 ∧ hd.max = 0 then 1 else Min.min (if hd.kind = 8 then roundsZ hd (sizeA 0 subs) else sizeA 0 subs + 1) 2001 := by rw [sizeN]
  have HZ := Lib.hid hsz
  have HRO := Lib.hid (fun m W (hk : hd.kind = 8) (h0 : 0 ≤ m) (h1 : m ≤ 2001) => rounds_any hd (.slice A subs.length c) m W (hrep hk).1 (hrep hk).2.1 (hrep hk).2.2 h0 h1 ⟨A, _, c, rfl⟩)
  clear hsz hfd
  generalize hss : sizeN (.mk hd subs) = ss at *
  clear hss
  obtain ⟨kind, set, num, mn, mx, bare⟩ := hd
  unfold nodeV at *
  simp only at *
  go_enter Tryd.func65, Tryd.ntmps65
  go_upto_region 2 with fail
  have nb := Blk.new w 27 #[.int .i64 kind, .int .u64 (wd set 0 : Int), .int .u64 (wd set 1 : Int), .int .u64 (wd set 2 : Int), .int .u64 (wd set 3 : Int), .slice A subs.length c, .int .i64 num, .int .i64 mn, .int .i64 mx, .bool bare]
  have hx1 := (Ext.refl w).alloc (.cells #[.int .i64 kind, .int .u64 (wd set 0 : Int), .int .u64 (wd set 1 : Int), .int .u64 (wd set 2 : Int), .int .u64 (wd set 3 : Int), .slice A subs.length c, .int .i64 num, .int .i64 mn, .int .i64 mx, .bool bare] 27)
  generalize w.alloc (.cells #[.int .i64 kind, .int .u64 (wd set 0 : Int), .int .u64 (wd set 1 : Int), .int .u64 (wd set 2 : Int), .int .u64 (wd set 3 : Int), .slice A subs.length c, .int .i64 num, .int .i64 mn, .int .i64 mx, .bool bare] 27) = w1 at *
  generalize w.heap.size = b at *
  have c0 := nb.cell 0
  have c5 := nb.cell 5
  have c8 := nb.cell 8
  simp only [List.getElem?_toArray, List.getElem?_cons_succ, List.getElem?_cons_zero] at c0 c5 c8
  have NB := Lib.hid nb
  clear nb
  by_cases h80 : kind = 8 ∧ mx = 0
  · obtain ⟨rfl, rfl⟩ := h80
    have HZ2 := Lib.hid (show ss = 1 by rw [HZ.out]; simp)
    clear HZ HRO
    go_wp2
    go_ret
    exact ⟨by rw [HZ2.out]; rfl, hx1⟩
  · have hcd : (kind = 8 ∧ mx ≠ 0) ∨ kind ≠ 8 := by omega
    have hx11 : Ext w1 w1 := Ext.refl w1
    rcases hcd with ⟨rfl, hm⟩ | hk
    all_goals
      go_upto_region 4 with fail
      go_wp2
      go_loopw [3, 17] (fun a i wr => ∃ k : Nat, k ≤ subs.length ∧ i = .int .i64 k ∧ a = .int .i64 (sizeA 0 (subs.take k)) ∧ Ext w wr ∧ Ext w1 wr) (fun _ i _ => subs.length - (intOf i).toNat)
      case atStart => exact ⟨0, Nat.zero_le _, rfl, by rw [List.take_zero, sizeA], hx1, hx11⟩
      case round =>
        obtain ⟨k, hk', rfl, rfl, hx, hx2⟩ := hrel
        have hfk : formL (subs.take k) = true := by
          have h1 := HFL.out
          rw [← List.take_append_drop k subs, formL_app, Bool.and_eq_true] at h1
          exact h1.1
        obtain ⟨r1, r2⟩ := sizeA_range (subs.take k) 0 hfk (by omega) (by omega)
        clear hfk
        by_cases hlt : k < subs.length
        · obtain ⟨g, o, sv, rfl, hcell, hok⟩ := HS.out.get k hlt
          obtain ⟨A2, c2, rfl⟩ := hok.shape
          have hfn : formB subs[k] = true := by
            have h1 := HFL.out
            rw [← List.take_append_drop (k + 1) subs, formL_app, take_snoc subs k hlt, formL_app, formL_one, Bool.and_eq_true, Bool.and_eq_true] at h1
            exact h1.1.2
          obtain ⟨r3, r4⟩ := sizeN_range _ hfn
          have hstep : sizeA 0 (subs.take (k + 1)) = Min.min (sizeA 0 (subs.take k) + sizeN subs[k]) 2001 := by rw [take_snoc subs k hlt, sizeA_app, sizeA, sizeA]
          have IHk := Lib.hid (fun w' (hw' : Ext w w') => IH.out subs[k] (List.getElem_mem hlt) _ w' (NdOk.ext hw' _ _ hok) hfn)
          obtain ⟨e0, e1, e2, e3, e4, e5, e6, e7, e8, e9⟩ := node_cells hx hcell
          have c5' := hx2.cell c5
          have HST := Lib.hid hstep
          clear hstep hok hcell IH HS HZ HRO NB hfn HFL c5
          generalize subs[k] = nk at *
          obtain ⟨⟨k2, t2, n2, mn2, mx2, b2⟩, sub2⟩ := nk
          simp only [Nd.h] at *
          generalize (Nd.mk ⟨k2, t2, n2, mn2, mx2, b2⟩ sub2).subs.length = len2 at *
          generalize sizeN (.mk ⟨k2, t2, n2, mn2, mx2, b2⟩ sub2) = res at *
          generalize sizeA 0 (subs.take k) = acc at *
          have d1 : (k : Int) < (subs.length : Int) := by omega
          have q1 : IntKind.i64.wrap (acc + res) = acc + res := by rw [IntKind.wrap_i64]; omega
          go_upto_region 7 with fail
          have hx4 := hx.alloc (.cells #[.int .i64 k2, .int .u64 (wd t2 0 : Int), .int .u64 (wd t2 1 : Int), .int .u64 (wd t2 2 : Int), .int .u64 (wd t2 3 : Int), .slice A2 len2 c2, .int .i64 n2, .int .i64 mn2, .int .i64 mx2, .bool b2] 27)
          have hx5 := hx2.alloc (.cells #[.int .i64 k2, .int .u64 (wd t2 0 : Int), .int .u64 (wd t2 1 : Int), .int .u64 (wd t2 2 : Int), .int .u64 (wd t2 3 : Int), .slice A2 len2 c2, .int .i64 n2, .int .i64 mn2, .int .i64 mx2, .bool b2] 27)
          go_wp2_with (go_at_call 65; refine (IHk.out _ hx4).mono ?_; rintro e w' ⟨rfl, hx'⟩)
          go_roundw
          case rel => exact ⟨k + 1, by omega, by go_num, by rw [HST.out, min_if], hx4.trans hx', hx5.trans hx'⟩
          case measure => simp [intOf]; omega
        · have hkl : subs.take k = subs := List.take_of_length_le (by omega)
          rw [hkl] at r1 r2 ⊢
          generalize sizeA 0 subs = tot at *
          have d1 : ¬ (k : Int) < (subs.length : Int) := by omega
          first
            | (have hs8 := Lib.hid (show ss = Min.min (roundsZ ⟨8, set, num, mn, mx, bare⟩ tot) 2001 by rw [HZ.out]; simp [hm])
               obtain ⟨s0, s1, s2, s3, s4, s5, s6, s7, s8, s9⟩ := node_cells0 (NB.out.ext hx2)
               have HR2 := Lib.hid (fun W => HRO.out tot W (by trivial) r1 r2)
               generalize roundsZ ⟨8, set, num, mn, mx, bare⟩ tot = rz at *
               clear HRO HZ IH HS HFL NB
               by_cases hz : 2001 < rz
               all_goals
                 go_wp2_with (go_at_call 91; refine (HR2.out _).mono ?_; rintro e w' ⟨rfl, hx'⟩)
                 go_ret
                 exact ⟨by rw [hs8.out, min_if]; first | (simp [hz]; done) | (simp; omega), hx.trans hx'⟩)
            | (have hs9 := Lib.hid (show ss = Min.min (tot + 1) 2001 by rw [HZ.out]; simp [hk])
               have q1 : IntKind.i64.wrap (tot + 1) = tot + 1 := by rw [IntKind.wrap_i64]; omega
               have c0' := hx2.cell c0
               clear HRO HZ IH HS HFL NB
               by_cases hz : 2001 < tot + 1
               all_goals
                 go_wp2
                 go_ret
                 exact ⟨by rw [hs9.out, min_if]; first | (simp [hz]; done) | (simp; omega), hx⟩)

end Go.Proofs.YtkcgbdoplhgbmaaDoor
