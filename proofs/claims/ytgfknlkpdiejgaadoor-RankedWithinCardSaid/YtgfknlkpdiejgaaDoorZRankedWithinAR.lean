/- trawlref04.Form as a contract. Condition: the tree lies in memory, its lists are short. trawlref04.Size and trawllaw22.long as contracts. Condition: the tree lies in memory. A new span, the store into it; a beginning of a slice of spans. No condition. RankedWithin as a walk. Condition: the tree lies in memory; the error values and the library's table lie where they lie. -/
import Derived.Test.YtgfknlkpdiejgaaDoorZRankedWithinAQ
import Derived.Test.YtgfknlkpdiejgaaDoorNLeft
import Derived.Test.YtgfknlkpdiejgaaDoorZRankedWithinAL
import Derived.Test.YtgfknlkpdiejgaaDoorZRankedWithinAC
import Derived.Test.YtgfknlkpdiejgaaDoorZRankedWithinAP
import Derived.Test.YtgfknlkpdiejgaaDoorNodeW
import Derived.Deep.RegionHeld3
import Derived.BigQuiet
namespace Go.Proofs.YtgfknlkpdiejgaaDoor
open Go Go.RowKit

set_option maxRecDepth 100000 in
set_option maxHeartbeats 8000000 in
theorem form04_any : ∀ (n : Nd) (sv : Value) (w : World), NdOk w n sv → smallN n →
    Calls Tryd.prog 29 #[nodeV n.h sv] w fun r w' => r = .returned (.bool (formB n)) ∧ Ext w w' := by
  refine Nd.ind fun hd subs ih sv w hn hsm => ?_
  obtain ⟨A, c, rfl⟩ := hn.shape
  obtain ⟨hlen, hsm⟩ := hsm
  have IH := Lib.hid (fun n hm sv w hn => ih n hm sv w hn (smallL_mem hsm n hm))
  have HN := Lib.hid hn
  have HR := Lib.hid (by rw [formB, ← used_formed] : formB (.mk hd subs) = ((usedB hd && swB hd subs.length) && formL subs))
  have HU := Lib.hid (fun W => used_any hd (.slice A subs.length c) (isSl_mk _ _ _) W)
  clear ih hsm hn
  generalize formB (.mk hd subs) = res at *
  simp only [Nd.h, Nd.subs] at *
  go_enter Tryd.func29, Tryd.ntmps29
  go_upto_region 2 with (first
    | (refine wpl_boxNd rfl _ rfl hd _ rfl ?_; intro b w1 hb hx1 eb sb)
    | (refine wpl_loadNd rfl _ rfl b 0 hd _ rfl hb.nd ?_)
    | (go_at_call 46; refine (HU.out _).mono ?_; rintro e w2 ⟨rfl, hx2⟩)
    | (refine wpl_allocNd rfl rfl ?_; intro s w3 hs hx3 es ss)
    | (refine wpl_storeNd rfl _ _ rfl rfl s (usedH hd) _ _ _ rfl rfl (isSl_mk _ _ _) hs ?_; intro w4 hs4 hk4))
  have hx4 := hx2.trans (hx3.keep1 hk4 es)
  have hxw := hx1.trans hx4
  have hb4 := hb.ext hx4
  have c5 : w4.cell? ⟨b, 5, none⟩ = some (.slice A subs.length c) := hb4.cell 5
  clear HU hb hx1 hx2 hx3 hs hk4 es ss eb sb hx4
  simp only [Act.put, List.setIfInBounds_toArray, List.set_cons_succ, List.set_cons_zero]
  go_cut [51] (fun v wx => v = .bool (!usedB hd) ∧ w4 = wx)
  case first =>
    have c0 : w4.cell? ⟨b, 0, none⟩ = some (.int .i64 hd.kind) := hb4.cell 0
    have c1 : w4.cell? ⟨b, 1, none⟩ = some (.int .u64 (wd hd.set 0 : Int)) := hb4.cell 1
    have c2 : w4.cell? ⟨b, 2, none⟩ = some (.int .u64 (wd hd.set 1 : Int)) := hb4.cell 2
    have c3 : w4.cell? ⟨b, 3, none⟩ = some (.int .u64 (wd hd.set 2 : Int)) := hb4.cell 3
    have c4 : w4.cell? ⟨b, 4, none⟩ = some (.int .u64 (wd hd.set 3 : Int)) := hb4.cell 4
    have c6 : w4.cell? ⟨b, 6, none⟩ = some (.int .i64 hd.num) := hb4.cell 6
    have c7 : w4.cell? ⟨b, 7, none⟩ = some (.int .i64 hd.min) := hb4.cell 7
    have c8 : w4.cell? ⟨b, 8, none⟩ = some (.int .i64 hd.max) := hb4.cell 8
    have c9 : w4.cell? ⟨b, 9, none⟩ = some (.bool hd.bare) := hb4.cell 9
    have d1 : w4.cell? ⟨s, 1, none⟩ = some (.int .u64 (wd (usedH hd).set 0 : Int)) := hs4.cell 1
    have d2 : w4.cell? ⟨s, 2, none⟩ = some (.int .u64 (wd (usedH hd).set 1 : Int)) := hs4.cell 2
    have d3 : w4.cell? ⟨s, 3, none⟩ = some (.int .u64 (wd (usedH hd).set 2 : Int)) := hs4.cell 3
    have d4 : w4.cell? ⟨s, 4, none⟩ = some (.int .u64 (wd (usedH hd).set 3 : Int)) := hs4.cell 4
    have d6 : w4.cell? ⟨s, 6, none⟩ = some (.int .i64 (usedH hd).num) := hs4.cell 6
    have d7 : w4.cell? ⟨s, 7, none⟩ = some (.int .i64 (usedH hd).min) := hs4.cell 7
    have d8 : w4.cell? ⟨s, 8, none⟩ = some (.int .i64 (usedH hd).max) := hs4.cell 8
    have d9 : w4.cell? ⟨s, 9, none⟩ = some (.bool (usedH hd).bare) := hs4.cell 9
    have hne := neq_set hd.set (usedH hd).set
    have hS := Lib.hid (show usedB hd = (decide (1 ≤ hd.kind) && decide (hd.kind ≤ 8) && wordsB hd.set (usedH hd).set && decide (hd.num = (usedH hd).num) && decide (hd.min = (usedH hd).min) && decide (hd.max = (usedH hd).max) && (hd.bare == (usedH hd).bare)) from rfl)
    clear HR IH HN hb4 hs4 hxw
    generalize usedB hd = sh at *
    generalize (usedH hd).num = n2 at *
    generalize (usedH hd).min = m2 at *
    generalize (usedH hd).max = x2 at *
    generalize (usedH hd).bare = b2 at *
    generalize hd.kind = k1 at *
    generalize hd.num = n1 at *
    generalize hd.min = m1 at *
    generalize hd.max = x1 at *
    generalize hd.bare = b1 at *
    generalize wordsB hd.set (usedH hd).set = ws at *
    by_cases t0 : k1 < 1
    case' neg =>
      by_cases t1 : 8 < k1
      case' neg =>
        cases ws
        case' true =>
          by_cases t3 : n1 = n2
          case' neg => have e1 : (n1 != n2) = true := by simpa using t3
          case' pos =>
            subst t3
            by_cases t4 : m1 = m2
            case' neg => have e1 : (m1 != m2) = true := by simpa using t4
            case' pos =>
              subst t4
              by_cases t5 : x1 = x2
              case' neg => have e1 : (x1 != x2) = true := by simpa using t5
              case' pos =>
                subst t5
                cases b1 <;> cases b2
    all_goals
      have hq := Lib.hid (show (decide (1 ≤ k1) = !decide (k1 < 1)) ∧ (decide (k1 ≤ 8) = !decide (8 < k1)) from ⟨by rw [Bool.eq_iff_iff]; simp, by rw [Bool.eq_iff_iff]; simp⟩)
      go_wp2
      all_goals
        go_meet
        case rel => exact ⟨by rw [hS.out, hq.out.1, hq.out.2]; first | (simp; done) | (simp [*]; done), rfl⟩
  obtain ⟨rfl, rfl⟩ := hcut
  clear hs4
  cases hS : usedB hd
  · have HR2 := Lib.hid (show res = false by rw [HR.out, hS, Bool.false_and, Bool.false_and])
    clear HR IH HN hS
    go_wp2
    go_ret
    exact ⟨by rw [HR2.out]; rfl, hxw⟩
  rw [hS, Bool.true_and] at HR
  have hkk : 1 ≤ hd.kind ∧ hd.kind ≤ 8 := by
    simp only [usedB, Bool.and_eq_true, decide_eq_true_eq] at hS
    exact ⟨hS.1.1.1.1.1.1, hS.1.1.1.1.1.2⟩
  clear hS
  have hx44 : Ext w4 w4 := Ext.refl w4
  have c0 : w4.cell? ⟨b, 0, none⟩ = some (.int .i64 hd.kind) := hb4.cell 0
  have c6 : w4.cell? ⟨b, 6, none⟩ = some (.int .i64 hd.num) := hb4.cell 6
  have c7 : w4.cell? ⟨b, 7, none⟩ = some (.int .i64 hd.min) := hb4.cell 7
  have c8 : w4.cell? ⟨b, 8, none⟩ = some (.int .i64 hd.max) := hb4.cell 8
  have c9 : w4.cell? ⟨b, 9, none⟩ = some (.bool hd.bare) := hb4.cell 9
  obtain ⟨kind, set, num, mn, mx, bare⟩ := hd
  simp only at *
  have hlz : ∀ m : Nat, ((subs.length : Int) != (m : Int)) = !decide (subs.length = m) := fun m => by
    by_cases h : subs.length = m
    · simp [h]
    · have h2 : ¬ ((subs.length : Int) = (m : Int)) := by omega
      simp [h, h2]
  have l1 : ((subs.length : Int) != 1) = !decide (subs.length = 1) := hlz 1
  have l0 : ((subs.length : Int) != 0) = !decide (subs.length = 0) := hlz 0
  clear hlz hb4
  by_cases h56 : kind = 5 ∨ kind = 6
  · rcases h56 with rfl | rfl
    all_goals
      by_cases h1 : (subs.length : Int) < 2
      · have HR2 := Lib.hid (show res = false by
          rw [HR.out, Bool.and_eq_false_iff]
          refine .inl (Bool.eq_false_iff.2 fun h => ?_)
          simp [swB] at h
          omega)
        clear HR IH HN hx44
        go_wp2
        go_ret
        exact ⟨by rw [HR2.out]; rfl, hxw⟩
      · have HR2 := Lib.hid (show res = formL subs by
          rw [HR.out, show swB _ subs.length = true from by simp [swB]; omega, Bool.true_and])
        clear HR
        go_wp2
        go_loopw [5] (fun i wr => ∃ k : Nat, k ≤ subs.length ∧ i = .int .i64 k ∧ formL (subs.take k) = true ∧ Ext w4 wr) (fun i _ => subs.length - (intOf i).toNat)
        case atStart => exact ⟨0, Nat.zero_le _, rfl, by rw [List.take_zero, formL], hx44⟩
        case round =>
          clear hx44 c0 c6 c7 c8 c9 l0 l1
          obtain ⟨k, hk, rfl, hfl, hx⟩ := hrel
          have HL := Lib.hid hfl
          clear hfl
          replace c5 := hx.cell c5
          by_cases hlt : k < subs.length
          · obtain ⟨g0, o0, sv, rfl, hat, hok⟩ := HN.out.get k hlt
            have hxw2 := hxw.trans hx
            replace hat := hat.ext hxw2
            have HST := Lib.hid (show formL (subs.take (k + 1)) = formB subs[k] by rw [take_snoc subs k hlt, formL_app, HL.out, formL_one, Bool.true_and])
            have HEN := Lib.hid (show formB subs[k] = false → formL subs = false from fun h => by rw [← List.take_append_drop (k + 1) subs, formL_app, HST.out, h, Bool.false_and])
            have IHk := Lib.hid (IH.out subs[k] (List.getElem_mem hlt) sv wr (NdOk.ext hxw2 _ _ hok))
            clear IH HN HL hok
            generalize formB subs[k] = pk at *
            generalize subs[k] = nk at *
            have t1 : (k : Int) < (subs.length : Int) := by omega
            cases pk
            all_goals
              go_wp2_with (first
                | (refine wpl_loadNd rfl _ rfl g0 (o0 + k * 10) nk.h sv rfl hat ?_)
                | (go_at_call 29; refine IHk.out.mono ?_; rintro e w6 ⟨rfl, hx6⟩))
            · go_ret
              exact ⟨by rw [HR2.out, HEN.out trivial]; rfl, hxw2.trans hx6⟩
            · go_roundw
              case rel => exact ⟨k + 1, by omega, by go_num, HST.out, hx.trans hx6⟩
              case measure => simp [intOf]; omega
          · have hkl : subs.take k = subs := List.take_of_length_le (by omega)
            rw [hkl] at HL
            have t1 : ¬ (k : Int) < (subs.length : Int) := by omega
            clear IH HN hkl
            go_wp2
            go_ret
            exact ⟨by rw [HR2.out, HL.out]; rfl, hxw.trans hx⟩
  by_cases h7 : kind = 7
  · subst h7
    by_cases hl : subs.length = 1
    · by_cases h2 : num < 1
      · have HR2 := Lib.hid (show res = false by
          rw [HR.out, Bool.and_eq_false_iff]
          refine .inl (Bool.eq_false_iff.2 fun h => ?_)
          simp [swB] at h
          omega)
        rw [show decide (subs.length = 1) = true from by simpa using hl, Bool.not_true] at l1
        have T := Lib.hid hl
        clear hl
        clear HR IH HN hx44
        go_wp2
        go_ret
        exact ⟨by rw [HR2.out]; rfl, hxw⟩
      · by_cases h3 : 999 < num
        · have HR2 := Lib.hid (show res = false by
            rw [HR.out, Bool.and_eq_false_iff]
            refine .inl (Bool.eq_false_iff.2 fun h => ?_)
            simp [swB] at h
            omega)
          rw [show decide (subs.length = 1) = true from by simpa using hl, Bool.not_true] at l1
          have T := Lib.hid hl
          clear hl
          clear HR IH HN hx44
          go_wp2
          go_ret
          exact ⟨by rw [HR2.out]; rfl, hxw⟩
        · have HR2 := Lib.hid (show res = formL subs by
            rw [HR.out, show swB _ subs.length = true from by simp [swB]; omega, Bool.true_and])
          rw [show decide (subs.length = 1) = true from by simpa using hl, Bool.not_true] at l1
          have T := Lib.hid hl
          clear hl
          clear HR
          go_wp2
          go_loopw [5] (fun i wr => ∃ k : Nat, k ≤ subs.length ∧ i = .int .i64 k ∧ formL (subs.take k) = true ∧ Ext w4 wr) (fun i _ => subs.length - (intOf i).toNat)
          case atStart => exact ⟨0, Nat.zero_le _, rfl, by rw [List.take_zero, formL], hx44⟩
          case round =>
            clear hx44 c0 c6 c7 c8 c9 l0 l1
            obtain ⟨k, hk, rfl, hfl, hx⟩ := hrel
            have HL := Lib.hid hfl
            clear hfl
            replace c5 := hx.cell c5
            by_cases hlt : k < subs.length
            · obtain ⟨g0, o0, sv, rfl, hat, hok⟩ := HN.out.get k hlt
              have hxw2 := hxw.trans hx
              replace hat := hat.ext hxw2
              have HST := Lib.hid (show formL (subs.take (k + 1)) = formB subs[k] by rw [take_snoc subs k hlt, formL_app, HL.out, formL_one, Bool.true_and])
              have HEN := Lib.hid (show formB subs[k] = false → formL subs = false from fun h => by rw [← List.take_append_drop (k + 1) subs, formL_app, HST.out, h, Bool.false_and])
              have IHk := Lib.hid (IH.out subs[k] (List.getElem_mem hlt) sv wr (NdOk.ext hxw2 _ _ hok))
              clear IH HN HL hok
              generalize formB subs[k] = pk at *
              generalize subs[k] = nk at *
              have t1 : (k : Int) < (subs.length : Int) := by omega
              cases pk
              all_goals
                go_wp2_with (first
                  | (refine wpl_loadNd rfl _ rfl g0 (o0 + k * 10) nk.h sv rfl hat ?_)
                  | (go_at_call 29; refine IHk.out.mono ?_; rintro e w6 ⟨rfl, hx6⟩))
              · go_ret
                exact ⟨by rw [HR2.out, HEN.out trivial]; rfl, hxw2.trans hx6⟩
              · go_roundw
                case rel => exact ⟨k + 1, by omega, by go_num, HST.out, hx.trans hx6⟩
                case measure => simp [intOf]; omega
            · have hkl : subs.take k = subs := List.take_of_length_le (by omega)
              rw [hkl] at HL
              have t1 : ¬ (k : Int) < (subs.length : Int) := by omega
              clear IH HN hkl
              go_wp2
              go_ret
              exact ⟨by rw [HR2.out, HL.out]; rfl, hxw.trans hx⟩
    · have HR2 := Lib.hid (show res = false by
        rw [HR.out, Bool.and_eq_false_iff]
        refine .inl (Bool.eq_false_iff.2 fun h => ?_)
        simp [swB] at h
        omega)
      rw [show decide (subs.length = 1) = false from by simpa using hl, Bool.not_false] at l1
      have T := Lib.hid hl
      clear hl
      clear HR IH HN hx44
      go_wp2
      go_ret
      exact ⟨by rw [HR2.out]; rfl, hxw⟩
  by_cases h8 : kind = 8
  · subst h8
    by_cases hl : subs.length = 1
    · by_cases h2 : mn < 0
      · have HR2 := Lib.hid (show res = false by
          rw [HR.out, Bool.and_eq_false_iff]
          refine .inl (Bool.eq_false_iff.2 fun h => ?_)
          simp [swB] at h
          omega)
        rw [show decide (subs.length = 1) = true from by simpa using hl, Bool.not_true] at l1
        have T := Lib.hid hl
        clear hl
        clear HR IH HN hx44
        go_wp2
        go_ret
        exact ⟨by rw [HR2.out]; rfl, hxw⟩
      · by_cases h3 : 255 < mn
        · have HR2 := Lib.hid (show res = false by
            rw [HR.out, Bool.and_eq_false_iff]
            refine .inl (Bool.eq_false_iff.2 fun h => ?_)
            simp [swB] at h
            omega)
          rw [show decide (subs.length = 1) = true from by simpa using hl, Bool.not_true] at l1
          have T := Lib.hid hl
          clear hl
          clear HR IH HN hx44
          go_wp2
          go_ret
          exact ⟨by rw [HR2.out]; rfl, hxw⟩
        · by_cases h4 : mx < -1
          · have HR2 := Lib.hid (show res = false by
              rw [HR.out, Bool.and_eq_false_iff]
              refine .inl (Bool.eq_false_iff.2 fun h => ?_)
              simp [swB] at h
              omega)
            rw [show decide (subs.length = 1) = true from by simpa using hl, Bool.not_true] at l1
            have T := Lib.hid hl
            clear hl
            clear HR IH HN hx44
            go_wp2
            go_ret
            exact ⟨by rw [HR2.out]; rfl, hxw⟩
          · by_cases h5 : 255 < mx
            · have HR2 := Lib.hid (show res = false by
                rw [HR.out, Bool.and_eq_false_iff]
                refine .inl (Bool.eq_false_iff.2 fun h => ?_)
                simp [swB] at h
                omega)
              rw [show decide (subs.length = 1) = true from by simpa using hl, Bool.not_true] at l1
              have T := Lib.hid hl
              clear hl
              clear HR IH HN hx44
              go_wp2
              go_ret
              exact ⟨by rw [HR2.out]; rfl, hxw⟩
            · by_cases hp : 0 ≤ mx
              · by_cases h7 : mx < mn
                · have HR2 := Lib.hid (show res = false by
                    rw [HR.out, Bool.and_eq_false_iff]
                    refine .inl (Bool.eq_false_iff.2 fun h => ?_)
                    simp [swB] at h
                    omega)
                  clear HR IH HN hx44
                  go_wp2
                  go_ret
                  exact ⟨by rw [HR2.out]; rfl, hxw⟩
                · cases bare
                  · have HR2 := Lib.hid (show res = formL subs by
                      rw [HR.out, show swB _ subs.length = true from by simp [swB]; omega, Bool.true_and])
                    rw [show decide (subs.length = 1) = true from by simpa using hl, Bool.not_true] at l1
                    have T := Lib.hid hl
                    clear hl
                    clear HR
                    go_wp2
                    go_loopw [5] (fun i wr => ∃ k : Nat, k ≤ subs.length ∧ i = .int .i64 k ∧ formL (subs.take k) = true ∧ Ext w4 wr) (fun i _ => subs.length - (intOf i).toNat)
                    case atStart => exact ⟨0, Nat.zero_le _, rfl, by rw [List.take_zero, formL], hx44⟩
                    case round =>
                      clear hx44 c0 c6 c7 c8 c9 l0 l1
                      obtain ⟨k, hk, rfl, hfl, hx⟩ := hrel
                      have HL := Lib.hid hfl
                      clear hfl
                      replace c5 := hx.cell c5
                      by_cases hlt : k < subs.length
                      · obtain ⟨g0, o0, sv, rfl, hat, hok⟩ := HN.out.get k hlt
                        have hxw2 := hxw.trans hx
                        replace hat := hat.ext hxw2
                        have HST := Lib.hid (show formL (subs.take (k + 1)) = formB subs[k] by rw [take_snoc subs k hlt, formL_app, HL.out, formL_one, Bool.true_and])
                        have HEN := Lib.hid (show formB subs[k] = false → formL subs = false from fun h => by rw [← List.take_append_drop (k + 1) subs, formL_app, HST.out, h, Bool.false_and])
                        have IHk := Lib.hid (IH.out subs[k] (List.getElem_mem hlt) sv wr (NdOk.ext hxw2 _ _ hok))
                        clear IH HN HL hok
                        generalize formB subs[k] = pk at *
                        generalize subs[k] = nk at *
                        have t1 : (k : Int) < (subs.length : Int) := by omega
                        cases pk
                        all_goals
                          go_wp2_with (first
                            | (refine wpl_loadNd rfl _ rfl g0 (o0 + k * 10) nk.h sv rfl hat ?_)
                            | (go_at_call 29; refine IHk.out.mono ?_; rintro e w6 ⟨rfl, hx6⟩))
                        · go_ret
                          exact ⟨by rw [HR2.out, HEN.out trivial]; rfl, hxw2.trans hx6⟩
                        · go_roundw
                          case rel => exact ⟨k + 1, by omega, by go_num, HST.out, hx.trans hx6⟩
                          case measure => simp [intOf]; omega
                      · have hkl : subs.take k = subs := List.take_of_length_le (by omega)
                        rw [hkl] at HL
                        have t1 : ¬ (k : Int) < (subs.length : Int) := by omega
                        clear IH HN hkl
                        go_wp2
                        go_ret
                        exact ⟨by rw [HR2.out, HL.out]; rfl, hxw.trans hx⟩
                  · by_cases hz : mn = 0
                    · have HR2 := Lib.hid (show res = formL subs by
                        rw [HR.out, show swB _ subs.length = true from by simp [swB]; omega, Bool.true_and])
                      rw [show decide (subs.length = 1) = true from by simpa using hl, Bool.not_true] at l1
                      have T := Lib.hid hl
                      clear hl
                      subst hz
                      clear HR
                      go_wp2
                      go_loopw [5] (fun i wr => ∃ k : Nat, k ≤ subs.length ∧ i = .int .i64 k ∧ formL (subs.take k) = true ∧ Ext w4 wr) (fun i _ => subs.length - (intOf i).toNat)
                      case atStart => exact ⟨0, Nat.zero_le _, rfl, by rw [List.take_zero, formL], hx44⟩
                      case round =>
                        clear hx44 c0 c6 c7 c8 c9 l0 l1
                        obtain ⟨k, hk, rfl, hfl, hx⟩ := hrel
                        have HL := Lib.hid hfl
                        clear hfl
                        replace c5 := hx.cell c5
                        by_cases hlt : k < subs.length
                        · obtain ⟨g0, o0, sv, rfl, hat, hok⟩ := HN.out.get k hlt
                          have hxw2 := hxw.trans hx
                          replace hat := hat.ext hxw2
                          have HST := Lib.hid (show formL (subs.take (k + 1)) = formB subs[k] by rw [take_snoc subs k hlt, formL_app, HL.out, formL_one, Bool.true_and])
                          have HEN := Lib.hid (show formB subs[k] = false → formL subs = false from fun h => by rw [← List.take_append_drop (k + 1) subs, formL_app, HST.out, h, Bool.false_and])
                          have IHk := Lib.hid (IH.out subs[k] (List.getElem_mem hlt) sv wr (NdOk.ext hxw2 _ _ hok))
                          clear IH HN HL hok
                          generalize formB subs[k] = pk at *
                          generalize subs[k] = nk at *
                          have t1 : (k : Int) < (subs.length : Int) := by omega
                          cases pk
                          all_goals
                            go_wp2_with (first
                              | (refine wpl_loadNd rfl _ rfl g0 (o0 + k * 10) nk.h sv rfl hat ?_)
                              | (go_at_call 29; refine IHk.out.mono ?_; rintro e w6 ⟨rfl, hx6⟩))
                          · go_ret
                            exact ⟨by rw [HR2.out, HEN.out trivial]; rfl, hxw2.trans hx6⟩
                          · go_roundw
                            case rel => exact ⟨k + 1, by omega, by go_num, HST.out, hx.trans hx6⟩
                            case measure => simp [intOf]; omega
                        · have hkl : subs.take k = subs := List.take_of_length_le (by omega)
                          rw [hkl] at HL
                          have t1 : ¬ (k : Int) < (subs.length : Int) := by omega
                          clear IH HN hkl
                          go_wp2
                          go_ret
                          exact ⟨by rw [HR2.out, HL.out]; rfl, hxw.trans hx⟩
                    · have HR2 := Lib.hid (show res = false by
                        rw [HR.out, Bool.and_eq_false_iff]
                        refine .inl (Bool.eq_false_iff.2 fun h => ?_)
                        simp [swB] at h
                        omega)
                      rw [show decide (subs.length = 1) = true from by simpa using hl, Bool.not_true] at l1
                      have T := Lib.hid hl
                      clear hl
                      have n1 : (mn != 0) = true := by simpa using hz
                      clear HR IH HN hx44
                      go_wp2
                      go_ret
                      exact ⟨by rw [HR2.out]; rfl, hxw⟩
              · cases bare
                · have HR2 := Lib.hid (show res = formL subs by
                    rw [HR.out, show swB _ subs.length = true from by simp [swB]; omega, Bool.true_and])
                  rw [show decide (subs.length = 1) = true from by simpa using hl, Bool.not_true] at l1
                  have T := Lib.hid hl
                  clear hl
                  clear HR
                  go_wp2
                  go_loopw [5] (fun i wr => ∃ k : Nat, k ≤ subs.length ∧ i = .int .i64 k ∧ formL (subs.take k) = true ∧ Ext w4 wr) (fun i _ => subs.length - (intOf i).toNat)
                  case atStart => exact ⟨0, Nat.zero_le _, rfl, by rw [List.take_zero, formL], hx44⟩
                  case round =>
                    clear hx44 c0 c6 c7 c8 c9 l0 l1
                    obtain ⟨k, hk, rfl, hfl, hx⟩ := hrel
                    have HL := Lib.hid hfl
                    clear hfl
                    replace c5 := hx.cell c5
                    by_cases hlt : k < subs.length
                    · obtain ⟨g0, o0, sv, rfl, hat, hok⟩ := HN.out.get k hlt
                      have hxw2 := hxw.trans hx
                      replace hat := hat.ext hxw2
                      have HST := Lib.hid (show formL (subs.take (k + 1)) = formB subs[k] by rw [take_snoc subs k hlt, formL_app, HL.out, formL_one, Bool.true_and])
                      have HEN := Lib.hid (show formB subs[k] = false → formL subs = false from fun h => by rw [← List.take_append_drop (k + 1) subs, formL_app, HST.out, h, Bool.false_and])
                      have IHk := Lib.hid (IH.out subs[k] (List.getElem_mem hlt) sv wr (NdOk.ext hxw2 _ _ hok))
                      clear IH HN HL hok
                      generalize formB subs[k] = pk at *
                      generalize subs[k] = nk at *
                      have t1 : (k : Int) < (subs.length : Int) := by omega
                      cases pk
                      all_goals
                        go_wp2_with (first
                          | (refine wpl_loadNd rfl _ rfl g0 (o0 + k * 10) nk.h sv rfl hat ?_)
                          | (go_at_call 29; refine IHk.out.mono ?_; rintro e w6 ⟨rfl, hx6⟩))
                      · go_ret
                        exact ⟨by rw [HR2.out, HEN.out trivial]; rfl, hxw2.trans hx6⟩
                      · go_roundw
                        case rel => exact ⟨k + 1, by omega, by go_num, HST.out, hx.trans hx6⟩
                        case measure => simp [intOf]; omega
                    · have hkl : subs.take k = subs := List.take_of_length_le (by omega)
                      rw [hkl] at HL
                      have t1 : ¬ (k : Int) < (subs.length : Int) := by omega
                      clear IH HN hkl
                      go_wp2
                      go_ret
                      exact ⟨by rw [HR2.out, HL.out]; rfl, hxw.trans hx⟩
                · by_cases hz : mn = 0
                  · have HR2 := Lib.hid (show res = formL subs by
                      rw [HR.out, show swB _ subs.length = true from by simp [swB]; omega, Bool.true_and])
                    rw [show decide (subs.length = 1) = true from by simpa using hl, Bool.not_true] at l1
                    have T := Lib.hid hl
                    clear hl
                    subst hz
                    clear HR
                    go_wp2
                    go_loopw [5] (fun i wr => ∃ k : Nat, k ≤ subs.length ∧ i = .int .i64 k ∧ formL (subs.take k) = true ∧ Ext w4 wr) (fun i _ => subs.length - (intOf i).toNat)
                    case atStart => exact ⟨0, Nat.zero_le _, rfl, by rw [List.take_zero, formL], hx44⟩
                    case round =>
                      clear hx44 c0 c6 c7 c8 c9 l0 l1
                      obtain ⟨k, hk, rfl, hfl, hx⟩ := hrel
                      have HL := Lib.hid hfl
                      clear hfl
                      replace c5 := hx.cell c5
                      by_cases hlt : k < subs.length
                      · obtain ⟨g0, o0, sv, rfl, hat, hok⟩ := HN.out.get k hlt
                        have hxw2 := hxw.trans hx
                        replace hat := hat.ext hxw2
                        have HST := Lib.hid (show formL (subs.take (k + 1)) = formB subs[k] by rw [take_snoc subs k hlt, formL_app, HL.out, formL_one, Bool.true_and])
                        have HEN := Lib.hid (show formB subs[k] = false → formL subs = false from fun h => by rw [← List.take_append_drop (k + 1) subs, formL_app, HST.out, h, Bool.false_and])
                        have IHk := Lib.hid (IH.out subs[k] (List.getElem_mem hlt) sv wr (NdOk.ext hxw2 _ _ hok))
                        clear IH HN HL hok
                        generalize formB subs[k] = pk at *
                        generalize subs[k] = nk at *
                        have t1 : (k : Int) < (subs.length : Int) := by omega
                        cases pk
                        all_goals
                          go_wp2_with (first
                            | (refine wpl_loadNd rfl _ rfl g0 (o0 + k * 10) nk.h sv rfl hat ?_)
                            | (go_at_call 29; refine IHk.out.mono ?_; rintro e w6 ⟨rfl, hx6⟩))
                        · go_ret
                          exact ⟨by rw [HR2.out, HEN.out trivial]; rfl, hxw2.trans hx6⟩
                        · go_roundw
                          case rel => exact ⟨k + 1, by omega, by go_num, HST.out, hx.trans hx6⟩
                          case measure => simp [intOf]; omega
                      · have hkl : subs.take k = subs := List.take_of_length_le (by omega)
                        rw [hkl] at HL
                        have t1 : ¬ (k : Int) < (subs.length : Int) := by omega
                        clear IH HN hkl
                        go_wp2
                        go_ret
                        exact ⟨by rw [HR2.out, HL.out]; rfl, hxw.trans hx⟩
                  · have HR2 := Lib.hid (show res = false by
                      rw [HR.out, Bool.and_eq_false_iff]
                      refine .inl (Bool.eq_false_iff.2 fun h => ?_)
                      simp [swB] at h
                      omega)
                    rw [show decide (subs.length = 1) = true from by simpa using hl, Bool.not_true] at l1
                    have T := Lib.hid hl
                    clear hl
                    have n1 : (mn != 0) = true := by simpa using hz
                    clear HR IH HN hx44
                    go_wp2
                    go_ret
                    exact ⟨by rw [HR2.out]; rfl, hxw⟩
    · have HR2 := Lib.hid (show res = false by
        rw [HR.out, Bool.and_eq_false_iff]
        refine .inl (Bool.eq_false_iff.2 fun h => ?_)
        simp [swB] at h
        omega)
      rw [show decide (subs.length = 1) = false from by simpa using hl, Bool.not_false] at l1
      have T := Lib.hid hl
      clear hl
      clear HR IH HN hx44
      go_wp2
      go_ret
      exact ⟨by rw [HR2.out]; rfl, hxw⟩
  rcases (show kind = 1 ∨ kind = 2 ∨ kind = 3 ∨ kind = 4 from by omega) with rfl | rfl | rfl | rfl
  all_goals
    clear h56 h7 h8 hkk
    by_cases hl : subs.length = 0
    · have HR2 := Lib.hid (show res = formL subs by
        rw [HR.out, show swB _ subs.length = true from by simp [swB, hl], Bool.true_and])
      rw [show decide (subs.length = 0) = true from by simpa using hl, Bool.not_true] at l0
      have T := Lib.hid hl
      clear hl
      clear HR
      go_wp2
      go_loopw [5] (fun i wr => ∃ k : Nat, k ≤ subs.length ∧ i = .int .i64 k ∧ formL (subs.take k) = true ∧ Ext w4 wr) (fun i _ => subs.length - (intOf i).toNat)
      case atStart => exact ⟨0, Nat.zero_le _, rfl, by rw [List.take_zero, formL], hx44⟩
      case round =>
        clear hx44 c0 c6 c7 c8 c9 l0 l1
        obtain ⟨k, hk, rfl, hfl, hx⟩ := hrel
        have HL := Lib.hid hfl
        clear hfl
        replace c5 := hx.cell c5
        by_cases hlt : k < subs.length
        · obtain ⟨g0, o0, sv, rfl, hat, hok⟩ := HN.out.get k hlt
          have hxw2 := hxw.trans hx
          replace hat := hat.ext hxw2
          have HST := Lib.hid (show formL (subs.take (k + 1)) = formB subs[k] by rw [take_snoc subs k hlt, formL_app, HL.out, formL_one, Bool.true_and])
          have HEN := Lib.hid (show formB subs[k] = false → formL subs = false from fun h => by rw [← List.take_append_drop (k + 1) subs, formL_app, HST.out, h, Bool.false_and])
          have IHk := Lib.hid (IH.out subs[k] (List.getElem_mem hlt) sv wr (NdOk.ext hxw2 _ _ hok))
          clear IH HN HL hok
          generalize formB subs[k] = pk at *
          generalize subs[k] = nk at *
          have t1 : (k : Int) < (subs.length : Int) := by omega
          cases pk
          all_goals
            go_wp2_with (first
              | (refine wpl_loadNd rfl _ rfl g0 (o0 + k * 10) nk.h sv rfl hat ?_)
              | (go_at_call 29; refine IHk.out.mono ?_; rintro e w6 ⟨rfl, hx6⟩))
          · go_ret
            exact ⟨by rw [HR2.out, HEN.out trivial]; rfl, hxw2.trans hx6⟩
          · go_roundw
            case rel => refine ⟨_, _, _, _, _, _, _, _, _, _, _, _, _, _, _, _, ?_, by congr 1⟩; exact ⟨k + 1, by omega, by go_num, HST.out, hx.trans hx6⟩
            case measure => simp [intOf]; omega
        · have hkl : subs.take k = subs := List.take_of_length_le (by omega)
          rw [hkl] at HL
          have t1 : ¬ (k : Int) < (subs.length : Int) := by omega
          clear IH HN hkl
          go_wp2
          go_ret
          exact ⟨by rw [HR2.out, HL.out]; rfl, hxw.trans hx⟩
    · have HR2 := Lib.hid (show res = false by
        rw [HR.out, Bool.and_eq_false_iff]
        refine .inl (Bool.eq_false_iff.2 fun h => ?_)
        simp [swB, hl] at h)
      rw [show decide (subs.length = 0) = false from by simpa using hl, Bool.not_false] at l0
      have T := Lib.hid hl
      clear hl
      clear HR IH HN hx44
      go_wp2
      go_ret
      exact ⟨by rw [HR2.out]; rfl, hxw⟩

end Go.Proofs.YtgfknlkpdiejgaaDoor

namespace Go.Proofs.YtgfknlkpdiejgaaDoor
open Go Go.RowKit

def size04N (t : Nd) : Int := if formB t = true then sizeN t else 0
set_option maxRecDepth 100000 in
set_option maxHeartbeats 4000000 in
theorem rsize_any (t : Nd) (sv : Value) (w : World) (hn : NdOk w t sv) (hsm : smallN t) :
    Calls Tryd.prog 15 #[nodeV t.h sv] w fun r w' => r = .returned (.int .i64 (size04N t)) ∧ Ext w w' := by
  have H1 := Lib.hid (fun W (hW : Ext w W) => form04_any t sv W (NdOk.ext hW _ _ hn) hsm)
  have H2 := Lib.hid (fun W (hW : Ext w W) (hf : formB t = true) => size04_any t sv W (NdOk.ext hW _ _ hn) hsm hf)
  have HR : Hid (size04N t = if formB t = true then sizeN t else 0) := Lib.hid rfl
  clear hn hsm
  generalize size04N t = res at *
  generalize sizeN t = sn at *
  generalize hf : formB t = fb at *
  clear hf
  generalize t.h = h at *
  go_enter Tryd.func15, Tryd.ntmps15
  cases fb
  · have FIN : Hid (res = 0) := Lib.hid (by rw [HR.out, if_neg (by decide)])
    clear H2 HR
    go_wp2_with (first
      | (refine wpl_boxNd rfl _ rfl h _ rfl ?_; intro z w1 hb hx1 ez sz)
      | (refine wpl_loadNd rfl _ rfl z 0 h _ rfl hb.nd ?_)
      | (go_at_call 29; refine (H1.out _ hx1).mono ?_; rintro e w2 ⟨rfl, hx2⟩))
    go_ret
    exact ⟨by rw [FIN.out]; rfl, hx1.trans hx2⟩
  · have FIN : Hid (res = sn) := Lib.hid (by rw [HR.out, if_pos rfl])
    have H3 := Lib.hid (fun W hW => H2.out W hW rfl)
    clear H2 HR
    go_wp2_with (first
      | (refine wpl_boxNd rfl _ rfl h _ rfl ?_; intro z w1 hb hx1 ez sz)
      | (go_at_call 30; refine (H3.out _ (hx1.trans hx2)).mono ?_; rintro e w3 ⟨rfl, hx3⟩)
      | (refine wpl_loadNd rfl _ rfl z 0 h _ rfl (hb.ext hx2).nd ?_)
      | (go_at_call 29; refine (H1.out _ hx1).mono ?_; rintro e w2 ⟨rfl, hx2⟩)
      | (refine wpl_loadNd rfl _ rfl z 0 h _ rfl hb.nd ?_))
    go_ret
    exact ⟨by rw [FIN.out]; rfl, (hx1.trans hx2).trans hx3⟩

/-- What long tells. -/
def longB (lf n sz most : Int) : Bool := decide (lf < 0) || (decide (0 < n) && decide (n ≤ 2000) && (decide (150 < n) || decide (150 < sz) || decide (most < n * sz * sz)))
def longT (t : Nd) (s : ByteArray) (most : Int) : Bool := longB (leftN t 2500) (size04N t) s.size most
theorem long_ok {t : Nd} {s : ByteArray} {most : Int} (h : longT t s most = false) : 0 ≤ leftN t 2500 ∧ (chkN t = 0 → s.size ≤ 150) := by
  unfold longT longB at h
  simp only [Bool.or_eq_false_iff, decide_eq_false_iff_not, Bool.and_eq_false_iff] at h
  refine ⟨by omega, fun hc => ?_⟩
  obtain ⟨h3, _, h5⟩ := chk_ok hc
  have h6 := sizeN_range t h3
  have e : size04N t = sizeN t := by unfold size04N; rw [if_pos h3]
  have h7 := size_nodes t h3
  have h8 := nodesN_pos (expN t)
  rw [e] at h
  omega
set_option maxRecDepth 100000 in
set_option maxHeartbeats 8000000 in
theorem long_any (t : Nd) (sv : Value) (s : ByteArray) (c e most : Int) (w : World) (hn : NdOk w t sv) :
    Calls Tryd.prog 5 #[nodeV t.h sv, .agg #[.string s, .int .i64 c, .int .i64 e], .int .i64 most] w fun r w' => r = .returned (.bool (longT t s most)) ∧ Ext w w' := by
  have HF := Lib.hid (fun W (hW : Ext w W) => few_any t sv 2500 W (NdOk.ext hW _ _ hn) (by omega) (by omega))
  have HS := Lib.hid (fun (h : 0 ≤ leftN t 2500) W (hW : Ext w W) => rsize_any t sv W (NdOk.ext hW _ _ hn) (small_left t 2500 (by omega) h))
  have HOK : Hid (longT t s most = longB (leftN t 2500) (size04N t) s.size most) := Lib.hid rfl
  have HR : Hid (0 ≤ size04N t) := Lib.hid (by
    unfold size04N
    split
    · rename_i h3; have h6 := sizeN_range t h3; omega
    · omega)
  clear hn
  obtain ⟨lf, hlf⟩ : ∃ lf, lf = leftN t 2500 := ⟨_, rfl⟩
  rw [← hlf] at HF HS HOK
  clear hlf
  generalize longT t s most = res at *
  generalize size04N t = n at *
  generalize t.h = h at *
  go_enter Tryd.func5, Tryd.ntmps5
  go_upto_region 1 with (refine wpl_boxNd rfl _ rfl h _ rfl ?_; intro z w1 hb hx1 ez sz)
  have hV := Blk.new w1 29 #[.string s, .int .i64 c, .int .i64 e]
  have hx2 := hx1.alloc (.cells #[.string s, .int .i64 c, .int .i64 e] 29)
  replace hb := hb.ext ((Ext.refl w1).alloc (.cells #[.string s, .int .i64 c, .int .i64 e] 29))
  generalize w1.alloc (.cells #[.string s, .int .i64 c, .int .i64 e] 29) = w2 at *
  generalize w1.heap.size = u at *
  clear hx1 ez sz
  by_cases h1 : 0 ≤ lf
  case neg =>
    rw [decide_eq_false h1] at HF
    have FIN : Hid (res = true) := Lib.hid (by rw [HOK.out]; unfold longB; rw [decide_eq_true (by omega : lf < 0)]; rfl)
    clear HS h1 HOK
    go_wp2_with (first
      | (refine wpl_loadNd rfl _ rfl z 0 h _ rfl hb.nd ?_)
      | (go_at_call 14; refine (HF.out _ hx2).mono ?_; rintro e w3 ⟨rfl, hx3⟩))
    go_ret
    exact ⟨by rw [FIN.out]; rfl, hx2.trans hx3⟩
  rw [decide_eq_true h1] at HF
  have HS2 := Lib.hid (fun W hW => HS.out h1 W hW)
  have HOK2 : Hid (res = (decide (0 < n) && decide (n ≤ 2000) && (decide (150 < n) || decide ((150 : Int) < s.size) || decide (most < n * s.size * s.size)))) := Lib.hid (by rw [HOK.out]; unfold longB; rw [decide_eq_false (by omega : ¬ lf < 0), Bool.false_or])
  clear HS h1 HOK
  go_upto_region 4 with (first
    | (go_at_call 15; refine (HS2.out _ (hx2.trans hx3)).mono ?_; rintro e w4 ⟨rfl, hx4⟩)
    | (refine wpl_loadNd rfl _ rfl z 0 h _ rfl (hb.ext hx3).nd ?_)
    | (go_at_call 14; refine (HF.out _ hx2).mono ?_; rintro e w3 ⟨rfl, hx3⟩)
    | (refine wpl_loadNd rfl _ rfl z 0 h _ rfl hb.nd ?_))
  have HX := Lib.hid ((hx2.trans hx3).trans hx4)
  have v0 := ((hV.ext hx3).ext hx4).cell 0
  simp at v0
  have hn0 := HR.out
  clear hb hV hx2 hx3 hx4 HF HS2 HR
  by_cases c1 : 0 < n
  case neg =>
    have FIN : Hid (res = false) := Lib.hid (by rw [HOK2.out, decide_eq_false c1]; rfl)
    clear HOK2
    go_wp2
    go_ret
    exact ⟨by rw [FIN.out]; rfl, HX.out⟩
  by_cases c2 : n ≤ 2000
  case neg =>
    have FIN : Hid (res = false) := Lib.hid (by rw [HOK2.out, decide_eq_true c1, decide_eq_false c2]; rfl)
    clear HOK2
    go_wp2
    go_ret
    exact ⟨by rw [FIN.out]; rfl, HX.out⟩
  by_cases c3 : 150 < n
  · have FIN : Hid (res = true) := Lib.hid (by rw [HOK2.out, decide_eq_true c1, decide_eq_true c2, decide_eq_true c3]; rfl)
    clear HOK2
    go_wp2
    go_ret
    exact ⟨by rw [FIN.out]; rfl, HX.out⟩
  by_cases c4 : (150 : Int) < s.size
  · have FIN : Hid (res = true) := Lib.hid (by rw [HOK2.out, decide_eq_true c1, decide_eq_true c2, decide_eq_true c4, Bool.or_true]; rfl)
    clear HOK2
    go_wp2
    go_ret
    exact ⟨by rw [FIN.out]; rfl, HX.out⟩
  have HOK3 : Hid (res = decide (most < n * s.size * s.size)) := Lib.hid (by rw [HOK2.out, decide_eq_true c1, decide_eq_true c2, decide_eq_false c3, decide_eq_false c4]; simp)
  clear HOK2
  have c5 : s.size ≤ 150 := by omega
  have hnn : ∃ k : Nat, n = k := Int.eq_ofNat_of_zero_le hn0
  obtain ⟨k, rfl⟩ := hnn
  have m1 : k * s.size ≤ 150 * 150 := Nat.mul_le_mul (by omega) c5
  have m2 : k * s.size * s.size ≤ 150 * 150 * 150 := Nat.mul_le_mul m1 c5
  have q1 : IntKind.i64.wrap ((k : Int) * (s.size : Int)) = (k : Int) * (s.size : Int) := by
    have : (k : Int) * (s.size : Int) = ((k * s.size : Nat) : Int) := by simp
    rw [IntKind.wrap_i64, this]; omega
  have q2 : IntKind.i64.wrap ((k : Int) * (s.size : Int) * (s.size : Int)) = (k : Int) * (s.size : Int) * (s.size : Int) := by
    have : (k : Int) * (s.size : Int) * (s.size : Int) = ((k * s.size * s.size : Nat) : Int) := by simp
    rw [IntKind.wrap_i64, this]; omega
  clear m1 m2 hn0
  by_cases c6 : most < (k : Int) * (s.size : Int) * (s.size : Int)
  · have FIN : Hid (res = true) := Lib.hid (by rw [HOK3.out, decide_eq_true c6])
    clear HOK3
    go_wp2
    go_ret
    exact ⟨by rw [FIN.out]; rfl, HX.out⟩
  · have FIN : Hid (res = false) := Lib.hid (by rw [HOK3.out, decide_eq_false c6])
    clear HOK3
    go_wp2
    go_ret
    exact ⟨by rw [FIN.out]; rfl, HX.out⟩

end Go.Proofs.YtgfknlkpdiejgaaDoor

namespace Go.Proofs.YtgfknlkpdiejgaaDoor
open Go Go.RowKit

/-- A new span; the store into it. -/
theorem wpl_allocSp {ops : Array Oper} {rest : List Oper} {o : Oper} {a : Act} {w : World} {Q : Exit → Act → World → Prop} (hgd : o.guard = none) (ho : o.op = .alloc 42)
    (hK : ∀ g w1, Blk w1 g 42 #[.int .i64 0, .int .i64 0] → Ext w w1 → w.heap.size ≤ g → g < w1.heap.size → wpList Tryd.prog ops Q rest (a.put o.dst (.pointer (some ⟨g, 0, none⟩))) w1) : wpList Tryd.prog ops Q (o :: rest) a w :=
  wpList_plain hgd fun _ hKK => by
    have hr : (execOp a.eval o).run Tryd.prog w = .ok (.value (.pointer (some ⟨w.heap.size, 0, none⟩))) (w.alloc (.cells #[.int .i64 0, .int .i64 0] 42)) := by
      unfold execOp
      rw [ho]
      simp [Instr.alloc, newVar, newRow, Value.cells]
    unfold Oper.wp
    rw [hr]
    exact hKK _ _ (hK _ _ (Blk.new w _ _) ((Ext.refl w).alloc _) (Nat.le_refl _) (by simp))
theorem wpl_storeSp {ops : Array Oper} {rest : List Oper} {o : Oper} {a : Act} {w : World} {Q : Exit → Act → World → Prop} (hgd : o.guard = none) (x y : Operand) (ho : o.op = .store 42 x y) (hd : o.dst = none) (g : Nat) (s s' : Int × Int) (hx : a.eval x = .pointer (some ⟨g, 0, none⟩)) (hy : a.eval y = .agg #[.int .i64 s.1, .int .i64 s.2]) (hB : Blk w g 42 #[.int .i64 s'.1, .int .i64 s'.2])
    (hK : ∀ w1, Blk w1 g 42 #[.int .i64 s.1, .int .i64 s.2] → Keeps (· = g) w w1 → wpList Tryd.prog ops Q rest a w1) : wpList Tryd.prog ops Q (o :: rest) a w := by
  have hpa : a.put o.dst undef = a := by rw [hd]; rfl
  rw [← hpa] at hK
  refine wpList_store_row hgd _ x y ho g #[.int .i64 s.1, .int .i64 s.2] hx hy _ #[.int .i64 s'.1, .int .i64 s'.2] hB info_sp rfl (by simp [Value.oneCell']) (hK _ (setRow_heap w g _ _ _ _ hB) ⟨rfl, rfl, rfl, by simp, fun k _ hk => setRow_other w g k _ hk⟩)
theorem RdSn.take {w : World} {A : Option Addr} {c : Nat} {l : List (Int × Int)} (h : RdSn w (.slice A l.length c) l) (k : Nat) (hk : k ≤ l.length) (c' : Nat) : RdSn w (.slice A k c') (l.take k) := by
  obtain ⟨B, d, hv, hc⟩ := h
  simp only [Value.slice.injEq] at hv
  obtain ⟨rfl, _, rfl⟩ := hv
  refine ⟨A, c', by rw [List.length_take, Nat.min_eq_left hk], fun j hj => ?_⟩
  rw [List.length_take, Nat.min_eq_left hk] at hj
  obtain ⟨g, o, h1, h2, h3⟩ := hc j (by omega)
  refine ⟨g, o, h1, ?_, ?_⟩
  · rw [List.getElem_take]; exact h2
  · rw [List.getElem_take]; exact h3

end Go.Proofs.YtgfknlkpdiejgaaDoor

namespace Go.Proofs.YtgfknlkpdiejgaaDoor
open Go Go.RowKit

theorem ask_zero {t : Nd} {n g i : Nat} (hc : chkN t = 0) (hi : i ≤ n) (hg : g ≤ 999) : askN t n g [(i : Int)] = 0 := by
  have ho : outB n [(i : Int)] = false := by
    unfold outB
    simp only [List.any_cons, List.any_nil, Bool.or_false, Bool.or_eq_false_iff, decide_eq_false_iff_not]
    omega
  unfold askN
  rw [hc, if_neg (by decide), if_neg]
  rw [ho]
  rintro (h | h | h)
  · cases h
  · omega
  · omega
/-- Find's answer, where there is none or one. -/
theorem find_none {s : ByteArray} {m : List UInt8} {t : Nd} {i g : Nat} {A : Nat → Addr} {w w' : World} {r : Ending} {k : Nat} (hk : k = 0) (hf : findR s.size (tkN (lfM s m) t) i = none) (h : FndR w k (fndL (lfM s m) s.size t i g) A r w') : r = .returned (.tuple #[.slice none 0 0, .bool false, .nilIface]) ∧ Ext w w' := by
  rcases h with ⟨h0, _⟩ | ⟨_, _, h2, h3⟩ | ⟨_, l, _, _, h1, _⟩
  · exact absurd hk h0
  · exact ⟨h2, h3⟩
  · unfold fndL at h1; rw [hf] at h1; cases h1
theorem find_some {s : ByteArray} {m : List UInt8} {t : Nd} {i g a b : Nat} {A : Nat → Addr} {w w' : World} {r : Ending} {k : Nat} (hk : k = 0) (hf : findR s.size (tkN (lfM s m) t) i = some (a, b)) (h : FndR w k (fndL (lfM s m) s.size t i g) A r w') :
    ∃ g' c, r = .returned (.tuple #[.slice (some ⟨g', 0, none⟩) (toldN (lfM s m) t a b g).length c, .bool true, .nilIface]) ∧ OwnSp w' w.heap.size (.slice (some ⟨g', 0, none⟩) (toldN (lfM s m) t a b g).length c) (toldN (lfM s m) t a b g) ∧ Ext w w' := by
  rcases h with ⟨h0, _⟩ | ⟨_, h1, _⟩ | ⟨_, l, g', c, h1, h2, h3, h4⟩
  · exact absurd hk h0
  · unfold fndL at h1; rw [hf] at h1; cases h1
  · unfold fndL at h1
    rw [hf] at h1
    simp only [Option.map_some, Option.some.injEq] at h1
    subst h1
    exact ⟨g', c, h2, h3, h4⟩

set_option maxRecDepth 100000 in
set_option maxHeartbeats 16000000 in
theorem rankedWithin_walk (t : Nd) (svn : Value) (s : ByteArray) (c e fr G : Int) (w : World) (A : Nat → Addr) (hn : NdCap w t svn) (hE : Err3 w A) (v14 : w.cell? ⟨3, 0, none⟩ = some (errV (A 14))) (hT : Tab w) :
    Calls Tryd.prog 3 #[nodeV t.h svn, .agg #[.string s, .int .i64 c, .int .i64 e], .int .i64 fr, .int .i64 G] w fun r w' => r = .returned (.bool true) ∧ Ext w w' := by
  have HL := Lib.hid (fun W (hW : Ext w W) => lives22_any W A (hE.ext hW) (hW.cell v14) (hT.ext hW))
  have HG := Lib.hid (fun W (hW : Ext w W) => long_any t svn s c e 60000 W (NdOk.ext hW _ _ hn.ok))
  have HCk := Lib.hid (fun (h : 0 ≤ leftN t 2500) W (hW : Ext w W) => check_any t svn W A 2500 (NdOk.ext hW _ _ hn.ok) (hE.ext hW) (by omega) h)
  have HN := Lib.hid (fun (hs : s.size ≤ 150) W => new_any s c e W (by omega))
  have HFd := Lib.hid (fun (h : 0 ≤ leftN t 2500) (hs : s.size ≤ 150) (fr G : Int) W x (hW : Ext w W) (hS : IsScene W x s (mkAt s c e s.size)) => find_any t svn fr G W A 2500 (NdCap.ext hW hn) hS (hT.ext hW) (hE.ext hW) (hW.cell v14) (by omega) h (by omega) (by rw [mkAt_len]; omega))
  have HOK := Lib.hid (long_ok (t := t) (s := s) (most := 60000))
  have hsl := hn.ok.sl
  clear hn hE v14 hT
  generalize longT t s 60000 = lg at *
  obtain ⟨h, hh⟩ : ∃ h, h = t.h := ⟨_, rfl⟩
  rw [← hh] at HG HCk HFd ⊢
  clear hh
  go_enter Tryd.func3, Tryd.ntmps3
  go_upto_region 1 with (refine wpl_boxNd rfl _ rfl h _ rfl ?_; intro z w1 hb hx1 ex sx)
  have hV := Blk.new w1 29 #[.string s, .int .i64 c, .int .i64 e]
  have hx2 := hx1.alloc (.cells #[.string s, .int .i64 c, .int .i64 e] 29)
  replace hb := hb.ext ((Ext.refl w1).alloc (.cells #[.string s, .int .i64 c, .int .i64 e] 29))
  generalize w1.alloc (.cells #[.string s, .int .i64 c, .int .i64 e] 29) = w2 at *
  generalize w1.heap.size = u at *
  have HX2 := Lib.hid hx2
  have HK := Lib.hid (fun W (hW : Ext w2 W) => (⟨(hV.ext hW).cell 0, (hV.ext hW).cell 1, (hV.ext hW).cell 2⟩ : W.cell? ⟨u, 0, none⟩ = some (.string s) ∧ W.cell? ⟨u, 1, none⟩ = some (.int .i64 c) ∧ W.cell? ⟨u, 2, none⟩ = some (.int .i64 e)))
  have HA := Lib.hid (fun W (hW : Ext w2 W) => (hb.ext hW).nd)
  clear hV hb hx1 ex sx hx2
  have HL2 := Lib.hid (HL.out w2 HX2.out)
  have HXA : Hid (∀ W, Ext w2 W → Ext w W) := Lib.hid (fun W hW => HX2.out.trans hW)
  by_cases hlg : lg = true
  · subst hlg
    clear HCk HN HFd HOK
    go_wp2_with (first
      | (go_at_call 4; refine HL2.out.mono ?_; rintro e w3 ⟨rfl, hx3⟩; obtain ⟨k0, k1, k2⟩ := HK.out _ hx3)
      | (refine wpl_loadNd rfl _ rfl z 0 h _ rfl (HA.out _ hx3) ?_)
      | (go_at_call 5; refine (HG.out _ (HXA.out _ hx3)).mono ?_; rintro e w4 ⟨rfl, hx4⟩))
    go_ret
    exact ⟨rfl, (HXA.out _ hx3).trans hx4⟩
  have hlg' : lg = false := by simpa using hlg
  clear hlg
  subst hlg'
  obtain ⟨h1, h2⟩ := HOK.out rfl
  have HC2 := Lib.hid (fun W hW => HCk.out h1 W hW)
  have HF2 := Lib.hid (fun hs => HFd.out h1 hs)
  have H150 := Lib.hid h2
  clear HOK HCk HFd h1 h2
  by_cases g1 : G < 0
  · clear HC2 HN HF2 H150
    go_wp2_with (first
      | (go_at_call 4; refine HL2.out.mono ?_; rintro e w3 ⟨rfl, hx3⟩; obtain ⟨k0, k1, k2⟩ := HK.out _ hx3)
      | (refine wpl_loadNd rfl _ rfl z 0 h _ rfl (HA.out _ hx3) ?_)
      | (go_at_call 5; refine (HG.out _ (HXA.out _ hx3)).mono ?_; rintro e w4 ⟨rfl, hx4⟩))
    go_ret
    exact ⟨rfl, (HXA.out _ hx3).trans hx4⟩
  have d1 : decide (G < 0) = false := decide_eq_false g1
  by_cases g2 : 999 < G
  · clear HC2 HN HF2 H150
    go_wp2_with (first
      | (go_at_call 4; refine HL2.out.mono ?_; rintro e w3 ⟨rfl, hx3⟩; obtain ⟨k0, k1, k2⟩ := HK.out _ hx3)
      | (refine wpl_loadNd rfl _ rfl z 0 h _ rfl (HA.out _ hx3) ?_)
      | (go_at_call 5; refine (HG.out _ (HXA.out _ hx3)).mono ?_; rintro e w4 ⟨rfl, hx4⟩))
    go_ret
    exact ⟨rfl, (HXA.out _ hx3).trans hx4⟩
  have d2 : decide (999 < G) = false := decide_eq_false g2
  by_cases g3 : fr < 0
  · clear HC2 HN HF2 H150
    go_wp2_with (first
      | (go_at_call 4; refine HL2.out.mono ?_; rintro e w3 ⟨rfl, hx3⟩; obtain ⟨k0, k1, k2⟩ := HK.out _ hx3)
      | (refine wpl_loadNd rfl _ rfl z 0 h _ rfl (HA.out _ hx3) ?_)
      | (go_at_call 5; refine (HG.out _ (HXA.out _ hx3)).mono ?_; rintro e w4 ⟨rfl, hx4⟩))
    go_ret
    exact ⟨rfl, (HXA.out _ hx3).trans hx4⟩
  have d3 : decide (fr < 0) = false := decide_eq_false g3
  by_cases g4 : (s.size : Int) < fr
  · clear HC2 HN HF2 H150
    go_wp2_with (first
      | (go_at_call 4; refine HL2.out.mono ?_; rintro e w3 ⟨rfl, hx3⟩; obtain ⟨k0, k1, k2⟩ := HK.out _ hx3)
      | (refine wpl_loadNd rfl _ rfl z 0 h _ rfl (HA.out _ hx3) ?_)
      | (go_at_call 5; refine (HG.out _ (HXA.out _ hx3)).mono ?_; rintro e w4 ⟨rfl, hx4⟩; obtain ⟨k0, k1, k2⟩ := HK.out _ (hx3.trans hx4)))
    go_ret
    exact ⟨rfl, (HXA.out _ hx3).trans hx4⟩
  have d4 : decide ((s.size : Int) < fr) = false := decide_eq_false g4
  obtain ⟨gn, rfl⟩ := Int.eq_ofNat_of_zero_le (show 0 ≤ G by omega)
  obtain ⟨i0, rfl⟩ := Int.eq_ofNat_of_zero_le (show 0 ≤ fr by omega)
  have hgn : gn ≤ 999 := by omega
  have hi0 : i0 ≤ s.size := by omega
  have d5 : decide (s.size < i0) = false := decide_eq_false (by omega)
  clear g1 g2 g3 g4
  by_cases g5 : chkN t = 0
  case neg =>
    have he : errR A (chkN t) = .iface 89 (.pointer (some (A (chkN t - 1)))) := by unfold errR errV; rw [if_neg g5]
    rw [he] at HC2
    generalize A (chkN t - 1) = aa at *
    clear HN HF2 H150 g5 he
    go_wp2_with (first
      | (go_at_call 4; refine HL2.out.mono ?_; rintro e w3 ⟨rfl, hx3⟩; obtain ⟨k0, k1, k2⟩ := HK.out _ hx3)
      | (refine wpl_loadNdG _ rfl rfl z 0 h _ rfl (HA.out _ (hx3.trans hx4)) ?_)
      | (refine wpl_loadNd rfl _ rfl z 0 h _ rfl (HA.out _ hx3) ?_)
      | (go_at_call 6; refine (HC2.out _ (HXA.out _ (hx3.trans hx4))).mono ?_; rintro e w5 ⟨rfl, hx5⟩)
      | (go_at_call 5; refine (HG.out _ (HXA.out _ hx3)).mono ?_; rintro e w4 ⟨rfl, hx4⟩; obtain ⟨k0, k1, k2⟩ := HK.out _ (hx3.trans hx4)))
    go_ret
    exact ⟨rfl, ((HXA.out _ hx3).trans hx4).trans hx5⟩
  have he : errR A (chkN t) = .nilIface := by rw [g5]; rfl
  rw [he] at HC2
  have hs := H150.out g5
  have HCH := Lib.hid g5
  have HN2 := Lib.hid (HN.out hs)
  have HF3 := Lib.hid (HF2.out hs)
  clear he g5 H150 HF2 HN
  go_upto_region 6 with (first
    | (go_at_call 4; refine HL2.out.mono ?_; rintro e w3 ⟨rfl, hx3⟩; obtain ⟨k0, k1, k2⟩ := HK.out _ hx3)
    | (refine wpl_loadNdG _ rfl rfl z 0 h _ rfl (HA.out _ (hx3.trans hx4)) ?_)
    | (refine wpl_loadNd rfl _ rfl z 0 h _ rfl (HA.out _ hx3) ?_)
    | (go_at_call 6; refine (HC2.out _ (HXA.out _ (hx3.trans hx4))).mono ?_; rintro e w5 ⟨rfl, hx5⟩; obtain ⟨k0, k1, k2⟩ := HK.out _ ((hx3.trans hx4).trans hx5))
    | (go_at_call 7; refine (HN2.out _).mono ?_; rintro e w6 ⟨⟨xv, rfl, hsN⟩, hx6⟩)
    | (go_at_call 5; refine (HG.out _ (HXA.out _ hx3)).mono ?_; rintro e w4 ⟨rfl, hx4⟩; obtain ⟨k0, k1, k2⟩ := HK.out _ (hx3.trans hx4)))
  have hX26 := ((hx3.trans hx4).trans hx5).trans hx6
  have HX6 := Lib.hid hX26
  obtain ⟨gx, hxv⟩ : ∃ gx, xv = .pointer (some ⟨gx, 0, none⟩) := by obtain ⟨g, _, h, _⟩ := hsN; exact ⟨g, h⟩
  subst hxv
  have HA6 := Lib.hid (fun W (hW : Ext w6 W) => HA.out W (HX6.out.trans hW))
  have HXA6 : Hid (∀ W, Ext w6 W → Ext w W) := Lib.hid (fun W hW => HXA.out W (HX6.out.trans hW))
  have HFd := Lib.hid (fun (fr G : Int) W (hW : Ext w6 W) => HF3.out fr G W _ (HXA6.out W hW) (hsN.ext hW))
  have ec : ((gn : Int) / 2) = ((gn / 2 : Nat) : Int) := by omega
  have HK6 := Lib.hid (fun W (hW : Ext w6 W) => HK.out W (HX6.out.trans hW))
  have HSZ := Lib.hid hs
  clear hX26 hx3 hx4 hx5 hx6 hsN HF3 HN2 HC2 HL2 HL HG HA HK HX6 HXA k0 k1 k2 d1 d2 d3 d4 d5
  generalize hm : mkAt s c e s.size = m at *
  clear hm
  cases hfr : findR s.size (tkN (lfM s m) t) i0 with
  | none =>
    have HFa : Hid (∀ W, Ext w6 W → Calls Tryd.prog 8 #[nodeV h svn, .pointer (some ⟨gx, 0, none⟩), .int .i64 i0, .int .i64 gn] W fun r w' => r = .returned (.tuple #[.slice none 0 0, .bool false, .nilIface]) ∧ Ext W w') := Lib.hid (fun W hW => (HFd.out i0 gn W hW).mono fun r w' hr => find_none (g := gn) (ask_zero HCH.out hi0 hgn) hfr hr)
    have HFb : Hid (∀ W, Ext w6 W → Calls Tryd.prog 8 #[nodeV h svn, .pointer (some ⟨gx, 0, none⟩), .int .i64 i0, .int .i64 ((gn : Int) / 2)] W fun r w' => r = .returned (.tuple #[.slice none 0 0, .bool false, .nilIface]) ∧ Ext W w') := Lib.hid (fun W hW => by
      rw [ec]
      exact (HFd.out i0 (gn / 2 : Nat) W hW).mono fun r w' hr => find_none (g := gn / 2) (ask_zero HCH.out hi0 (by omega)) hfr hr)
    clear HFd ec HCH
    go_wp2_with (first
      | (refine wpl_loadNd rfl _ rfl z 0 h _ rfl (HA6.out _ hx7) ?_)
      | (refine wpl_loadNd rfl _ rfl z 0 h _ rfl (HA6.out _ (Ext.refl _)) ?_)
      | (go_at_call 8; ((with_reducible refine (HFa.out _ (Ext.refl _)).mono ?_); rintro e w7 ⟨rfl, hx7⟩))
      | (go_at_call 8; ((with_reducible refine (HFb.out _ hx7).mono ?_); rintro e w8 ⟨rfl, hx8⟩)))
    go_ret
    exact ⟨rfl, HXA6.out _ (hx7.trans hx8)⟩
  | some ab =>
    obtain ⟨a, b⟩ := ab
    obtain ⟨hia, htab, hab, hbn⟩ := findR_some (tkN_mon (lfM_ok s m) t) hfr
    have HRa : Hid (∀ W, Ext w6 W → Calls Tryd.prog 8 #[nodeV h svn, .pointer (some ⟨gx, 0, none⟩), .int .i64 i0, .int .i64 gn] W fun r w' => ∃ g c, r = .returned (.tuple #[.slice (some ⟨g, 0, none⟩) (gn + 1) c, .bool true, .nilIface]) ∧ OwnSp w' W.heap.size (.slice (some ⟨g, 0, none⟩) (gn + 1) c) (toldN (lfM s m) t a b gn) ∧ Ext W w') := Lib.hid (fun W hW => (HFd.out i0 gn W hW).mono fun r w' hr => by
      have := find_some (g := gn) (ask_zero HCH.out hi0 hgn) hfr hr
      rw [toldN_len] at this
      exact this)
    have HRb : Hid (∀ W, Ext w6 W → Calls Tryd.prog 8 #[nodeV h svn, .pointer (some ⟨gx, 0, none⟩), .int .i64 i0, .int .i64 ((gn : Int) / 2)] W fun r w' => ∃ g c, r = .returned (.tuple #[.slice (some ⟨g, 0, none⟩) (gn / 2 + 1) c, .bool true, .nilIface]) ∧ OwnSp w' W.heap.size (.slice (some ⟨g, 0, none⟩) (gn / 2 + 1) c) (toldN (lfM s m) t a b (gn / 2)) ∧ Ext W w') := Lib.hid (fun W hW => by
      rw [ec]
      exact (HFd.out i0 (gn / 2 : Nat) W hW).mono fun r w' hr => by
        have := find_some (g := gn / 2) (ask_zero HCH.out hi0 (by omega)) hfr hr
        rw [toldN_len] at this
        exact this)
    have HRc : Hid (a < s.size → (∀ W, Ext w6 W → Calls Tryd.prog 8 #[nodeV h svn, .pointer (some ⟨gx, 0, none⟩), .int .i64 ((a : Int) + 1), .int .i64 0] W fun r w' => r = .returned (.tuple #[.slice none 0 0, .bool false, .nilIface]) ∧ Ext W w') ∨
        ∃ a' : Nat, (a : Int) < a' ∧ ∀ W, Ext w6 W → Calls Tryd.prog 8 #[nodeV h svn, .pointer (some ⟨gx, 0, none⟩), .int .i64 ((a : Int) + 1), .int .i64 0] W fun r w' => ∃ g c, r = .returned (.tuple #[.slice (some ⟨g, 0, none⟩) 1 c, .bool true, .nilIface]) ∧ w'.cell? ⟨g, 0, none⟩ = some (.int .i64 a') ∧ Ext W w') := Lib.hid (fun hlt => by
      have e1 : ((a : Int) + 1) = ((a + 1 : Nat) : Int) := by omega
      rw [e1]
      cases hf2 : findR s.size (tkN (lfM s m) t) (a + 1) with
      | none => exact .inl fun W hW => (HFd.out (a + 1 : Nat) (0 : Nat) W hW).mono fun r w' hr => find_none (g := 0) (ask_zero HCH.out (by omega) (by omega)) hf2 hr
      | some p =>
        obtain ⟨a', b'⟩ := p
        obtain ⟨h3, _⟩ := findR_some (tkN_mon (lfM_ok s m) t) hf2
        refine .inr ⟨a', by omega, fun W hW => (HFd.out (a + 1 : Nat) (0 : Nat) W hW).mono fun r w' hr => ?_⟩
        obtain ⟨g, c, h4, h5, h6⟩ := find_some (g := 0) (ask_zero HCH.out (by omega) (by omega)) hf2 hr
        rw [toldN_len] at h4 h5
        refine ⟨g, c, h4, ?_, h6⟩
        have h7 := OwnR.cell h5 0 _ (spR_get _ 0 (by rw [toldN_len]; omega)) 0 (by omega)
        have h8 := toldN_head (lfM s m) t a' b' 0
        rw [List.getElem?_eq_getElem (by rw [toldN_len]; omega)] at h8
        simp only [Option.some.injEq] at h8
        rw [h8] at h7
        exact h7)
    have hl1 := toldN_len (lfM s m) t a b gn
    have hl2 := toldN_len (lfM s m) t a b (gn / 2)
    have HTK := Lib.hid (toldN_take (lfM s m) t a b gn (gn / 2) (by omega))
    have hhd := toldN_head (lfM s m) t a b gn
    have HIN := Lib.hid (toldN_in (lfM_ok s m) t a b gn (chk_ok HCH.out).1 htab hbn)
    generalize toldN (lfM s m) t a b gn = l1 at *
    generalize toldN (lfM s m) t a b (gn / 2) = l2 at *
    have HL1 := Lib.hid hl1
    have HL2 := Lib.hid hl2
    have HHD := Lib.hid hhd
    clear hl1 hl2 hhd HFd ec HCH hfr htab
    go_upto_region 8 with (first
      | (refine wpl_loadNd rfl _ rfl z 0 h _ rfl (HA6.out _ hx7) ?_)
      | (refine wpl_loadNd rfl _ rfl z 0 h _ rfl (HA6.out _ (Ext.refl _)) ?_)
      | (go_at_call 8; ((with_reducible refine (HRa.out _ (Ext.refl _)).mono ?_); rintro e w7 ⟨g7, c7, rfl, hO7, hx7⟩))
      | (go_at_call 8; ((with_reducible refine (HRb.out _ hx7).mono ?_); rintro e w8 ⟨g8, c8, rfl, hO8, hx8⟩)))
    have hx68 := hx7.trans hx8
    have hO7' : OwnSp w8 w6.heap.size (.slice (some ⟨g7, 0, none⟩) (gn + 1) c7) l1 := OwnR.ext hO7 hx8
    have HR1 := Lib.hid (RdSn.of_own hO7')
    have HR2 := Lib.hid (RdSn.of_own hO8)
    have hcap : gn + 1 ≤ c7 := by
      obtain ⟨A0, c0, h1, h2⟩ := OwnR.shape hO7'
      simp only [Value.slice.injEq] at h1
      rw [spR_len, HL1.out] at h2
      omega
    have HSm := Lib.hid (fun W (hW : Ext w8 W) c => (by
      have h1 : RdSn w8 (.slice (some ⟨g7, 0, none⟩) (gn / 2 + 1) c) (l1.take (gn / 2 + 1)) := RdSn.take (c := c7) (by rw [HL1.out]; exact HR1.out) (gn / 2 + 1) (by rw [HL1.out]; omega) c
      have h := sameSpans_any _ _ _ _ W (by rw [List.length_take, HL1.out]; omega) (h1.ext hW) (HR2.out.ext hW)
      rw [HTK.out, decide_eq_true rfl] at h
      exact h : Calls Tryd.prog 9 #[.slice (some ⟨g7, 0, none⟩) (gn / 2 + 1) c, .slice (some ⟨g8, 0, none⟩) (gn / 2 + 1) c8] W fun r w' => r = .returned (.bool true) ∧ Ext W w'))
    have HCL : Hid (∀ j (hj : j < gn + 1), ∃ x0 x1 : Int, w8.cell? ⟨g7, j * 2, none⟩ = some (.int .i64 x0) ∧ w8.cell? ⟨g7, j * 2 + 1, none⟩ = some (.int .i64 x1) ∧ ((x0 = -1 ∧ x1 = -1) ∨ ((a : Int) ≤ x0 ∧ x0 ≤ x1 ∧ x1 ≤ b))) := Lib.hid (fun j hj => by
      have h1 := OwnR.cell hO7' j _ (spR_get l1 j (by rw [HL1.out]; exact hj)) 0 (by omega)
      have h2 := OwnR.cell hO7' j _ (spR_get l1 j (by rw [HL1.out]; exact hj)) 1 (by omega)
      have h3 := HIN.out _ (List.getElem_mem (show j < l1.length by rw [HL1.out]; exact hj))
      refine ⟨(l1[j]'(by rw [HL1.out]; exact hj)).1, (l1[j]'(by rw [HL1.out]; exact hj)).2, h1, h2, ?_⟩
      rcases h3 with h3 | h3
      · left; rw [h3]; exact ⟨rfl, rfl⟩
      · exact .inr h3)
    have hH : w8.cell? ⟨g7, 0, none⟩ = some (.int .i64 a) ∧ w8.cell? ⟨g7, 1, none⟩ = some (.int .i64 b) := by
      have h0 : 0 < l1.length := by rw [HL1.out]; omega
      have h1 := OwnR.cell hO7' 0 _ (spR_get l1 0 h0) 0 (by omega)
      have h2 := OwnR.cell hO7' 0 _ (spR_get l1 0 h0) 1 (by omega)
      have h3 := HHD.out
      rw [List.getElem?_eq_getElem h0] at h3
      simp only [Option.some.injEq] at h3
      rw [h3] at h1 h2
      exact ⟨h1, h2⟩
    obtain ⟨c0, c1⟩ := hH
    have HC0 := Lib.hid c0
    have HC1 := Lib.hid c1
    have HX68 := Lib.hid hx68
    have n1 : ¬ ((a : Int) < (i0 : Int)) := by omega
    have d1 : decide ((a : Int) < (i0 : Int)) = false := decide_eq_false n1
    have hcap2 : gn / 2 + 1 ≤ c7 := by omega
    clear hx68 hO7 hO7' hO8 hx7 hx8 HR1 HR2 HL1 HL2 HHD HIN HTK HRa HRb hcap
    go_upto_region 14 with (go_at_call 9; refine (HSm.out _ (Ext.refl _) _).mono ?_; rintro e w9 ⟨rfl, hx9⟩; replace c0 := hx9.cell c0; replace c1 := hx9.cell c1)
    have HX9 := Lib.hid hx9
    have HX69 := Lib.hid (HX68.out.trans hx9)
    have hx99 := Ext.refl w9
    clear hx9 HSm d1 n1 hcap2 c0 c1
    go_wp2
    go_loopw [128] (fun iv wr => ∃ k : Nat, k ≤ gn + 1 ∧ iv = .int .i64 k ∧ Ext w9 wr) (fun iv _ => gn + 1 - (intOf iv).toNat)
    case atStart => exact ⟨0, Nat.zero_le _, rfl, hx99⟩
    case round =>
      clear hx99
      obtain ⟨k, hk, rfl, hxr⟩ := hrel
      have HXR := Lib.hid hxr
      clear hxr
      by_cases hlt : k < gn + 1
      · obtain ⟨x0, x1, b0, b1, hy⟩ := HCL.out k hlt
        replace b0 := (HX9.out.trans HXR.out).cell b0
        replace b1 := (HX9.out.trans HXR.out).cell b1
        have q9 : (k : Int) < ((gn + 1 : Nat) : Int) := by omega
        have HYY := Lib.hid hy
        clear hy
        go_upto_region 17 with (first
          | (refine wpl_allocSp rfl rfl ?_; intro bb w3 hbb hx3 eb sb)
          | (refine wpl_storeSp rfl _ _ rfl rfl bb (x0, x1) (0, 0) rfl rfl hbb ?_; intro w4 hb4 hk4))
        simp only [Act.put, List.setIfInBounds_toArray, List.set_cons_zero, List.set_cons_succ]
        have hx34 := hx3.keep1 hk4 eb
        have s0 : w4.cell? ⟨bb, 0, none⟩ = some (.int .i64 x0) := hb4.cell 0
        have s1 : w4.cell? ⟨bb, 1, none⟩ = some (.int .i64 x1) := hb4.cell 1
        have c0 := ((HX9.out.trans HXR.out).trans hx34).cell HC0.out
        have c1 := ((HX9.out.trans HXR.out).trans hx34).cell HC1.out
        have hxe := HXR.out.trans hx34
        have HXE := Lib.hid hxe
        have s0' := cell_plus s0
        have s1' := cell_plus s1
        have c0' := cell_plus c0
        have c1' := cell_plus c1
        clear hbb hx3 hk4 eb sb hb4 hx34 b0 b1 hxe s0 s1 c0 c1
        by_cases hun : x0 = -1 ∧ x1 = -1
        · obtain ⟨rfl, rfl⟩ := hun
          refine wp_region_plus (by kernel_rfl) (by kernel_rfl) ?_
          repeat (go_big_quiet_step (fail))
          refine wpQuiet_nil ?_
          intro y
          have hxy := HXE.out.trans (plus_ext w4 y)
          clear s0' s1' c0' c1'
          go_wp2
          go_roundw
          case rel => exact ⟨k + 1, hlt, by go_num, hxy⟩
          case measure => simp [intOf]; omega
        · have hy := HYY.out
          have e1 : (x0 == -1) = false := by rw [beq_eq_false_iff_ne]; omega
          have d1 : decide (x0 < (a : Int)) = false := decide_eq_false (by omega)
          have d2 : decide ((b : Int) < x1) = false := decide_eq_false (by omega)
          have d3 : decide (x1 < x0) = false := decide_eq_false (by omega)
          clear hy hun
          refine wp_region_plus (by kernel_rfl) (by kernel_rfl) ?_
          repeat (go_big_quiet_step (fail))
          refine wpQuiet_nil ?_
          intro y
          have hxy := HXE.out.trans (plus_ext w4 y)
          clear s0' s1' c0' c1' d1 d2 d3 e1
          go_wp2
          go_roundw
          case rel => exact ⟨k + 1, hlt, by go_num, hxy⟩
          case measure => simp [intOf]; omega
      · have q9 : ¬ (k : Int) < ((gn + 1 : Nat) : Int) := by omega
        have HXr := Lib.hid (HX69.out.trans HXR.out)
        obtain ⟨k0, _, _⟩ := HK6.out wr HXr.out
        have c0 := (HX9.out.trans HXR.out).cell HC0.out
        have k0' := cell_plus k0
        have c0' := cell_plus c0
        go_upto_region 20 with fail
        by_cases han : a = s.size
        · have q8 : ((a : Int) == (s.size : Int)) = true := by rw [han]; exact beq_self_eq_true _
          clear han
          refine wp_region_plus (by kernel_rfl) (by kernel_rfl) ?_
          repeat (go_big_quiet_step (fail))
          refine wpQuiet_nil ?_
          intro y
          have hxy := HXr.out.trans (plus_ext wr y)
          clear k0' c0' k0 c0
          go_wp2
          go_ret
          exact ⟨rfl, HXA6.out _ hxy⟩
        · have q8 : ((a : Int) == (s.size : Int)) = false := by rw [beq_eq_false_iff_ne]; omega
          have hlt2 : a < s.size := by omega
          have HRD := Lib.hid (HRc.out hlt2)
          clear han hlt2 HRc
          refine wp_region_plus (by kernel_rfl) (by kernel_rfl) ?_
          repeat (go_big_quiet_step (fail))
          refine wpQuiet_nil ?_
          intro y
          have hxy := HXr.out.trans (plus_ext wr y)
          have hxz := (HX9.out.trans HXR.out).trans (plus_ext wr y)
          clear k0' c0' k0 c0 q8
          generalize plus wr y = wy at *
          have KS := Lib.hid (fun w' (hw' : Ext wy w') => (by
            have q1 := HA6.out w' (hxy.trans hw')
            exact ⟨⟨q1 0 (by decide), q1 1 (by decide), q1 2 (by decide), q1 3 (by decide), q1 4 (by decide), q1 5 (by decide), q1 6 (by decide), q1 7 (by decide), q1 8 (by decide), q1 9 (by decide)⟩, (hxz.trans hw').cell HC0.out⟩ : (w'.cell? ⟨z, 0, none⟩ = some (.int .i64 h.kind) ∧ w'.cell? ⟨z, 1, none⟩ = some (.int .u64 (wd h.set 0 : Int)) ∧ w'.cell? ⟨z, 2, none⟩ = some (.int .u64 (wd h.set 1 : Int)) ∧ w'.cell? ⟨z, 3, none⟩ = some (.int .u64 (wd h.set 2 : Int)) ∧ w'.cell? ⟨z, 4, none⟩ = some (.int .u64 (wd h.set 3 : Int)) ∧ w'.cell? ⟨z, 5, none⟩ = some svn ∧ w'.cell? ⟨z, 6, none⟩ = some (.int .i64 h.num) ∧ w'.cell? ⟨z, 7, none⟩ = some (.int .i64 h.min) ∧ w'.cell? ⟨z, 8, none⟩ = some (.int .i64 h.max) ∧ w'.cell? ⟨z, 9, none⟩ = some (.bool h.bare)) ∧ w'.cell? ⟨g7, 0, none⟩ = some (.int .i64 a)))
          have HXY := Lib.hid hxy
          have q7 : IntKind.i64.wrap ((a : Int) + 1) = (a : Int) + 1 := by have := HSZ.out; rw [IntKind.wrap_i64]; omega
          clear hxy hxz
          rcases HRD.out with hrd | ⟨a', haa, hrd⟩
          · have HQ : Hid (∀ W, Ext w6 W → Calls Tryd.prog 8 #[.agg #[.int .i64 h.kind, .int .u64 (wd h.set 0 : Int), .int .u64 (wd h.set 1 : Int), .int .u64 (wd h.set 2 : Int), .int .u64 (wd h.set 3 : Int), svn, .int .i64 h.num, .int .i64 h.min, .int .i64 h.max, .bool h.bare], .pointer (some ⟨gx, 0, none⟩), .int .i64 ((a : Int) + 1), .int .i64 0] W fun r w' => r = .returned (.tuple #[.slice none 0 0, .bool false, .nilIface]) ∧ Ext W w') := Lib.hid hrd
            clear hrd HRD
            go_upto_region 22 with fail
            go_region_held3 (fun w' => (w'.cell? ⟨z, 0, none⟩ = some (.int .i64 h.kind) ∧ w'.cell? ⟨z, 1, none⟩ = some (.int .u64 (wd h.set 0 : Int)) ∧ w'.cell? ⟨z, 2, none⟩ = some (.int .u64 (wd h.set 1 : Int)) ∧ w'.cell? ⟨z, 3, none⟩ = some (.int .u64 (wd h.set 2 : Int)) ∧ w'.cell? ⟨z, 4, none⟩ = some (.int .u64 (wd h.set 3 : Int)) ∧ w'.cell? ⟨z, 5, none⟩ = some svn ∧ w'.cell? ⟨z, 6, none⟩ = some (.int .i64 h.num) ∧ w'.cell? ⟨z, 7, none⟩ = some (.int .i64 h.min) ∧ w'.cell? ⟨z, 8, none⟩ = some (.int .i64 h.max) ∧ w'.cell? ⟨z, 9, none⟩ = some (.bool h.bare)) ∧ w'.cell? ⟨g7, 0, none⟩ = some (.int .i64 a))
              ((first | exact KS.out _ (Ext.refl _).drew | exact KS.out _ hX10))
              ((go_at_call 8; refine (HQ.out _ (HXY.out.trans (Ext.refl wy).drewr)).mono ?_; rintro e w10 ⟨rfl, hx10⟩; have hX10 : Ext wy w10 := (Ext.refl wy).drewr.trans hx10))
            all_goals
              have hXW := HXA6.out _ (HXY.out.trans hX10)
              have HXW := Lib.hid hXW
              clear hx10 hX10 hXW KS HQ
              go_wp2
              refine wp_region_plus (by kernel_rfl) (by kernel_rfl) ?_
              repeat (go_big_quiet_step (fail))
              refine wpQuiet_nil ?_
              intro y2
              have hxf := HXW.out.trans (plus_ext w10 y2)
              go_wp2
              go_ret
              exact ⟨rfl, hxf⟩
          · have HQ : Hid (∀ W, Ext w6 W → Calls Tryd.prog 8 #[.agg #[.int .i64 h.kind, .int .u64 (wd h.set 0 : Int), .int .u64 (wd h.set 1 : Int), .int .u64 (wd h.set 2 : Int), .int .u64 (wd h.set 3 : Int), svn, .int .i64 h.num, .int .i64 h.min, .int .i64 h.max, .bool h.bare], .pointer (some ⟨gx, 0, none⟩), .int .i64 ((a : Int) + 1), .int .i64 0] W fun r w' => ∃ g c, r = .returned (.tuple #[.slice (some ⟨g, 0, none⟩) 1 c, .bool true, .nilIface]) ∧ w'.cell? ⟨g, 0, none⟩ = some (.int .i64 a') ∧ Ext W w') := Lib.hid hrd
            clear hrd HRD
            go_upto_region 22 with fail
            go_region_held3 (fun w' => (w'.cell? ⟨z, 0, none⟩ = some (.int .i64 h.kind) ∧ w'.cell? ⟨z, 1, none⟩ = some (.int .u64 (wd h.set 0 : Int)) ∧ w'.cell? ⟨z, 2, none⟩ = some (.int .u64 (wd h.set 1 : Int)) ∧ w'.cell? ⟨z, 3, none⟩ = some (.int .u64 (wd h.set 2 : Int)) ∧ w'.cell? ⟨z, 4, none⟩ = some (.int .u64 (wd h.set 3 : Int)) ∧ w'.cell? ⟨z, 5, none⟩ = some svn ∧ w'.cell? ⟨z, 6, none⟩ = some (.int .i64 h.num) ∧ w'.cell? ⟨z, 7, none⟩ = some (.int .i64 h.min) ∧ w'.cell? ⟨z, 8, none⟩ = some (.int .i64 h.max) ∧ w'.cell? ⟨z, 9, none⟩ = some (.bool h.bare)) ∧ w'.cell? ⟨g7, 0, none⟩ = some (.int .i64 a))
              ((first | exact KS.out _ (Ext.refl _).drew | exact KS.out _ hX10))
              ((go_at_call 8; refine (HQ.out _ (HXY.out.trans (Ext.refl wy).drewr)).mono ?_; rintro e w10 ⟨g10, c10, rfl, hc10, hx10⟩; have hX10 : Ext wy w10 := (Ext.refl wy).drewr.trans hx10))
            all_goals
              have hXW := HXA6.out _ (HXY.out.trans hX10)
              have HXW := Lib.hid hXW
              obtain ⟨_, c0⟩ := KS.out _ hX10
              have c0' := cell_plus c0
              have hc10' := cell_plus hc10
              have q6 : decide ((a : Int) < (a' : Int)) = true := decide_eq_true haa
              clear hx10 hX10 hXW KS HQ c0 hc10
              go_wp2
              refine wp_region_plus (by kernel_rfl) (by kernel_rfl) ?_
              repeat (go_big_quiet_step (fail))
              refine wpQuiet_nil ?_
              intro y2
              have hxf := HXW.out.trans (plus_ext w10 y2)
              clear c0' hc10'
              go_wp2
              go_ret
              exact ⟨rfl, hxf⟩

end Go.Proofs.YtgfknlkpdiejgaaDoor
