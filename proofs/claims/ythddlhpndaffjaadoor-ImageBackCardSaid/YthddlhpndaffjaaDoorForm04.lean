/- trawlref04.Form as a contract. Condition: the tree lies in memory, its lists are short. -/
import Derived.Test.YthddlhpndaffjaaDoorRef04P
namespace Go.Proofs.YthddlhpndaffjaaDoor
open Go Go.RowKit

set_option maxRecDepth 100000 in
set_option maxHeartbeats 8000000 in
theorem form04_any : ∀ (n : Nd) (sv : Value) (w : World), NdOk w n sv → smallN n →
    Calls Tryd.prog 76 #[nodeV n.h sv] w fun r w' => r = .returned (.bool (formB n)) ∧ Ext w w' := by
  refine Nd.ind fun hd subs ih sv w hn hsm => ?_
  obtain ⟨A, c, rfl⟩ := hn.shape
  obtain ⟨hlen, hsm⟩ := hsm
  have IH := Lib.hid (fun n hm sv w hn => ih n hm sv w hn (smallL_mem hsm n hm))
  have HN := Lib.hid hn
  have HR := Lib.hid (by rw [formB, ← used_formed] : formB (.mk hd subs) = ((usedB hd && swB hd subs.length) && formL subs))
  have HU := Lib.hid (fun W => used_any hd (.slice A subs.length c) (isSl_mk _ _ _) W)
  clear ih hsm hn
  generalize formB (.mk hd subs) = res at *
  simp only [Nd.h, Nd.subs] at *
  go_enter Tryd.func76, Tryd.ntmps76
  go_upto_region 2 with (first
    | (refine wpl_boxNd rfl _ rfl hd _ rfl ?_; intro b w1 hb hx1 eb sb)
    | (refine wpl_loadNd rfl _ rfl b 0 hd _ rfl hb.nd ?_)
    | (go_at_call 103; refine (HU.out _).mono ?_; rintro e w2 ⟨rfl, hx2⟩)
    | (refine wpl_allocNd rfl rfl ?_; intro s w3 hs hx3 es ss)
    | (refine wpl_storeNd rfl _ _ rfl rfl s (usedH hd) _ _ _ rfl rfl (isSl_mk _ _ _) hs ?_; intro w4 hs4 hk4))
  have hx4 := hx2.trans (hx3.keep1 hk4 es)
  have hxw := hx1.trans hx4
  have hb4 := hb.ext hx4
  have c5 : w4.cell? ⟨b, 5, none⟩ = some (.slice A subs.length c) := hb4.cell 5
  clear HU hb hx1 hx2 hx3 hs hk4 es ss eb sb hx4
  simp only [Act.put, List.setIfInBounds_toArray, List.set_cons_succ, List.set_cons_zero]
  go_cut [51] (fun v wx => v = .bool (!usedB hd) ∧ w4 = wx)
  case first =>
    have c0 : w4.cell? ⟨b, 0, none⟩ = some (.int .i64 hd.kind) := hb4.cell 0
    have c1 : w4.cell? ⟨b, 1, none⟩ = some (.int .u64 (wd hd.set 0 : Int)) := hb4.cell 1
    have c2 : w4.cell? ⟨b, 2, none⟩ = some (.int .u64 (wd hd.set 1 : Int)) := hb4.cell 2
    have c3 : w4.cell? ⟨b, 3, none⟩ = some (.int .u64 (wd hd.set 2 : Int)) := hb4.cell 3
    have c4 : w4.cell? ⟨b, 4, none⟩ = some (.int .u64 (wd hd.set 3 : Int)) := hb4.cell 4
    have c6 : w4.cell? ⟨b, 6, none⟩ = some (.int .i64 hd.num) := hb4.cell 6
    have c7 : w4.cell? ⟨b, 7, none⟩ = some (.int .i64 hd.min) := hb4.cell 7
    have c8 : w4.cell? ⟨b, 8, none⟩ = some (.int .i64 hd.max) := hb4.cell 8
    have c9 : w4.cell? ⟨b, 9, none⟩ = some (.bool hd.bare) := hb4.cell 9
    have d1 : w4.cell? ⟨s, 1, none⟩ = some (.int .u64 (wd (usedH hd).set 0 : Int)) := hs4.cell 1
    have d2 : w4.cell? ⟨s, 2, none⟩ = some (.int .u64 (wd (usedH hd).set 1 : Int)) := hs4.cell 2
    have d3 : w4.cell? ⟨s, 3, none⟩ = some (.int .u64 (wd (usedH hd).set 2 : Int)) := hs4.cell 3
    have d4 : w4.cell? ⟨s, 4, none⟩ = some (.int .u64 (wd (usedH hd).set 3 : Int)) := hs4.cell 4
    have d6 : w4.cell? ⟨s, 6, none⟩ = some (.int .i64 (usedH hd).num) := hs4.cell 6
    have d7 : w4.cell? ⟨s, 7, none⟩ = some (.int .i64 (usedH hd).min) := hs4.cell 7
    have d8 : w4.cell? ⟨s, 8, none⟩ = some (.int .i64 (usedH hd).max) := hs4.cell 8
    have d9 : w4.cell? ⟨s, 9, none⟩ = some (.bool (usedH hd).bare) := hs4.cell 9
    have hne := neq_set hd.set (usedH hd).set
    have hS := Lib.hid (show usedB hd = (decide (1 ≤ hd.kind) && decide (hd.kind ≤ 8) && wordsB hd.set (usedH hd).set && decide (hd.num = (usedH hd).num) && decide (hd.min = (usedH hd).min) && decide (hd.max = (usedH hd).max) && (hd.bare == (usedH hd).bare)) from rfl)
    clear HR IH HN hb4 hs4 hxw
    generalize usedB hd = sh at *
    generalize (usedH hd).num = n2 at *
    generalize (usedH hd).min = m2 at *
    generalize (usedH hd).max = x2 at *
    generalize (usedH hd).bare = b2 at *
    generalize hd.kind = k1 at *
    generalize hd.num = n1 at *
    generalize hd.min = m1 at *
    generalize hd.max = x1 at *
    generalize hd.bare = b1 at *
    generalize wordsB hd.set (usedH hd).set = ws at *
    by_cases t0 : k1 < 1
    case' neg =>
      by_cases t1 : 8 < k1
      case' neg =>
        cases ws
        case' true =>
          by_cases t3 : n1 = n2
          case' neg => have e1 : (n1 != n2) = true := by simpa using t3
          case' pos =>
            subst t3
            by_cases t4 : m1 = m2
            case' neg => have e1 : (m1 != m2) = true := by simpa using t4
            case' pos =>
              subst t4
              by_cases t5 : x1 = x2
              case' neg => have e1 : (x1 != x2) = true := by simpa using t5
              case' pos =>
                subst t5
                cases b1 <;> cases b2
    all_goals
      have hq := Lib.hid (show (decide (1 ≤ k1) = !decide (k1 < 1)) ∧ (decide (k1 ≤ 8) = !decide (8 < k1)) from ⟨by rw [Bool.eq_iff_iff]; simp, by rw [Bool.eq_iff_iff]; simp⟩)
      go_wp2
      all_goals
        go_meet
        case rel => exact ⟨by rw [hS.out, hq.out.1, hq.out.2]; first | (simp; done) | (simp [*]; done), rfl⟩
  obtain ⟨rfl, rfl⟩ := hcut
  clear hs4
  cases hS : usedB hd
  · have HR2 := Lib.hid (show res = false by rw [HR.out, hS, Bool.false_and, Bool.false_and])
    clear HR IH HN hS
    go_wp2
    go_ret
    exact ⟨by rw [HR2.out]; rfl, hxw⟩
  rw [hS, Bool.true_and] at HR
  have hkk : 1 ≤ hd.kind ∧ hd.kind ≤ 8 := by
    simp only [usedB, Bool.and_eq_true, decide_eq_true_eq] at hS
    exact ⟨hS.1.1.1.1.1.1, hS.1.1.1.1.1.2⟩
  clear hS
  have hx44 : Ext w4 w4 := Ext.refl w4
  have c0 : w4.cell? ⟨b, 0, none⟩ = some (.int .i64 hd.kind) := hb4.cell 0
  have c6 : w4.cell? ⟨b, 6, none⟩ = some (.int .i64 hd.num) := hb4.cell 6
  have c7 : w4.cell? ⟨b, 7, none⟩ = some (.int .i64 hd.min) := hb4.cell 7
  have c8 : w4.cell? ⟨b, 8, none⟩ = some (.int .i64 hd.max) := hb4.cell 8
  have c9 : w4.cell? ⟨b, 9, none⟩ = some (.bool hd.bare) := hb4.cell 9
  obtain ⟨kind, set, num, mn, mx, bare⟩ := hd
  simp only at *
  have hlz : ∀ m : Nat, ((subs.length : Int) != (m : Int)) = !decide (subs.length = m) := fun m => by
    by_cases h : subs.length = m
    · simp [h]
    · have h2 : ¬ ((subs.length : Int) = (m : Int)) := by omega
      simp [h, h2]
  have l1 : ((subs.length : Int) != 1) = !decide (subs.length = 1) := hlz 1
  have l0 : ((subs.length : Int) != 0) = !decide (subs.length = 0) := hlz 0
  clear hlz hb4
  by_cases h56 : kind = 5 ∨ kind = 6
  · rcases h56 with rfl | rfl
    all_goals
      by_cases h1 : (subs.length : Int) < 2
      · have HR2 := Lib.hid (show res = false by
          rw [HR.out, Bool.and_eq_false_iff]
          refine .inl (Bool.eq_false_iff.2 fun h => ?_)
          simp [swB] at h
          omega)
        clear HR IH HN hx44
        go_wp2
        go_ret
        exact ⟨by rw [HR2.out]; rfl, hxw⟩
      · have HR2 := Lib.hid (show res = formL subs by
          rw [HR.out, show swB _ subs.length = true from by simp [swB]; omega, Bool.true_and])
        clear HR
        go_wp2
        go_loopw [5] (fun i wr => ∃ k : Nat, k ≤ subs.length ∧ i = .int .i64 k ∧ formL (subs.take k) = true ∧ Ext w4 wr) (fun i _ => subs.length - (intOf i).toNat)
        case atStart => exact ⟨0, Nat.zero_le _, rfl, by rw [List.take_zero, formL], hx44⟩
        case round =>
          clear hx44 c0 c6 c7 c8 c9 l0 l1
          obtain ⟨k, hk, rfl, hfl, hx⟩ := hrel
          have HL := Lib.hid hfl
          clear hfl
          replace c5 := hx.cell c5
          by_cases hlt : k < subs.length
          · obtain ⟨g0, o0, sv, rfl, hat, hok⟩ := HN.out.get k hlt
            have hxw2 := hxw.trans hx
            replace hat := hat.ext hxw2
            have HST := Lib.hid (show formL (subs.take (k + 1)) = formB subs[k] by rw [take_snoc subs k hlt, formL_app, HL.out, formL_one, Bool.true_and])
            have HEN := Lib.hid (show formB subs[k] = false → formL subs = false from fun h => by rw [← List.take_append_drop (k + 1) subs, formL_app, HST.out, h, Bool.false_and])
            have IHk := Lib.hid (IH.out subs[k] (List.getElem_mem hlt) sv wr (NdOk.ext hxw2 _ _ hok))
            clear IH HN HL hok
            generalize formB subs[k] = pk at *
            generalize subs[k] = nk at *
            have t1 : (k : Int) < (subs.length : Int) := by omega
            cases pk
            all_goals
              go_wp2_with (first
                | (refine wpl_loadNd rfl _ rfl g0 (o0 + k * 10) nk.h sv rfl hat ?_)
                | (go_at_call 76; refine IHk.out.mono ?_; rintro e w6 ⟨rfl, hx6⟩))
            · go_ret
              exact ⟨by rw [HR2.out, HEN.out trivial]; rfl, hxw2.trans hx6⟩
            · go_roundw
              case rel => exact ⟨k + 1, by omega, by go_num, HST.out, hx.trans hx6⟩
              case measure => simp [intOf]; omega
          · have hkl : subs.take k = subs := List.take_of_length_le (by omega)
            rw [hkl] at HL
            have t1 : ¬ (k : Int) < (subs.length : Int) := by omega
            clear IH HN hkl
            go_wp2
            go_ret
            exact ⟨by rw [HR2.out, HL.out]; rfl, hxw.trans hx⟩
  by_cases h7 : kind = 7
  · subst h7
    by_cases hl : subs.length = 1
    · by_cases h2 : num < 1
      · have HR2 := Lib.hid (show res = false by
          rw [HR.out, Bool.and_eq_false_iff]
          refine .inl (Bool.eq_false_iff.2 fun h => ?_)
          simp [swB] at h
          omega)
        rw [show decide (subs.length = 1) = true from by simpa using hl, Bool.not_true] at l1
        have T := Lib.hid hl
        clear hl
        clear HR IH HN hx44
        go_wp2
        go_ret
        exact ⟨by rw [HR2.out]; rfl, hxw⟩
      · by_cases h3 : 999 < num
        · have HR2 := Lib.hid (show res = false by
            rw [HR.out, Bool.and_eq_false_iff]
            refine .inl (Bool.eq_false_iff.2 fun h => ?_)
            simp [swB] at h
            omega)
          rw [show decide (subs.length = 1) = true from by simpa using hl, Bool.not_true] at l1
          have T := Lib.hid hl
          clear hl
          clear HR IH HN hx44
          go_wp2
          go_ret
          exact ⟨by rw [HR2.out]; rfl, hxw⟩
        · have HR2 := Lib.hid (show res = formL subs by
            rw [HR.out, show swB _ subs.length = true from by simp [swB]; omega, Bool.true_and])
          rw [show decide (subs.length = 1) = true from by simpa using hl, Bool.not_true] at l1
          have T := Lib.hid hl
          clear hl
          clear HR
          go_wp2
          go_loopw [5] (fun i wr => ∃ k : Nat, k ≤ subs.length ∧ i = .int .i64 k ∧ formL (subs.take k) = true ∧ Ext w4 wr) (fun i _ => subs.length - (intOf i).toNat)
          case atStart => exact ⟨0, Nat.zero_le _, rfl, by rw [List.take_zero, formL], hx44⟩
          case round =>
            clear hx44 c0 c6 c7 c8 c9 l0 l1
            obtain ⟨k, hk, rfl, hfl, hx⟩ := hrel
            have HL := Lib.hid hfl
            clear hfl
            replace c5 := hx.cell c5
            by_cases hlt : k < subs.length
            · obtain ⟨g0, o0, sv, rfl, hat, hok⟩ := HN.out.get k hlt
              have hxw2 := hxw.trans hx
              replace hat := hat.ext hxw2
              have HST := Lib.hid (show formL (subs.take (k + 1)) = formB subs[k] by rw [take_snoc subs k hlt, formL_app, HL.out, formL_one, Bool.true_and])
              have HEN := Lib.hid (show formB subs[k] = false → formL subs = false from fun h => by rw [← List.take_append_drop (k + 1) subs, formL_app, HST.out, h, Bool.false_and])
              have IHk := Lib.hid (IH.out subs[k] (List.getElem_mem hlt) sv wr (NdOk.ext hxw2 _ _ hok))
              clear IH HN HL hok
              generalize formB subs[k] = pk at *
              generalize subs[k] = nk at *
              have t1 : (k : Int) < (subs.length : Int) := by omega
              cases pk
              all_goals
                go_wp2_with (first
                  | (refine wpl_loadNd rfl _ rfl g0 (o0 + k * 10) nk.h sv rfl hat ?_)
                  | (go_at_call 76; refine IHk.out.mono ?_; rintro e w6 ⟨rfl, hx6⟩))
              · go_ret
                exact ⟨by rw [HR2.out, HEN.out trivial]; rfl, hxw2.trans hx6⟩
              · go_roundw
                case rel => exact ⟨k + 1, by omega, by go_num, HST.out, hx.trans hx6⟩
                case measure => simp [intOf]; omega
            · have hkl : subs.take k = subs := List.take_of_length_le (by omega)
              rw [hkl] at HL
              have t1 : ¬ (k : Int) < (subs.length : Int) := by omega
              clear IH HN hkl
              go_wp2
              go_ret
              exact ⟨by rw [HR2.out, HL.out]; rfl, hxw.trans hx⟩
    · have HR2 := Lib.hid (show res = false by
        rw [HR.out, Bool.and_eq_false_iff]
        refine .inl (Bool.eq_false_iff.2 fun h => ?_)
        simp [swB] at h
        omega)
      rw [show decide (subs.length = 1) = false from by simpa using hl, Bool.not_false] at l1
      have T := Lib.hid hl
      clear hl
      clear HR IH HN hx44
      go_wp2
      go_ret
      exact ⟨by rw [HR2.out]; rfl, hxw⟩
  by_cases h8 : kind = 8
  · subst h8
    by_cases hl : subs.length = 1
    · by_cases h2 : mn < 0
      · have HR2 := Lib.hid (show res = false by
          rw [HR.out, Bool.and_eq_false_iff]
          refine .inl (Bool.eq_false_iff.2 fun h => ?_)
          simp [swB] at h
          omega)
        rw [show decide (subs.length = 1) = true from by simpa using hl, Bool.not_true] at l1
        have T := Lib.hid hl
        clear hl
        clear HR IH HN hx44
        go_wp2
        go_ret
        exact ⟨by rw [HR2.out]; rfl, hxw⟩
      · by_cases h3 : 255 < mn
        · have HR2 := Lib.hid (show res = false by
            rw [HR.out, Bool.and_eq_false_iff]
            refine .inl (Bool.eq_false_iff.2 fun h => ?_)
            simp [swB] at h
            omega)
          rw [show decide (subs.length = 1) = true from by simpa using hl, Bool.not_true] at l1
          have T := Lib.hid hl
          clear hl
          clear HR IH HN hx44
          go_wp2
          go_ret
          exact ⟨by rw [HR2.out]; rfl, hxw⟩
        · by_cases h4 : mx < -1
          · have HR2 := Lib.hid (show res = false by
              rw [HR.out, Bool.and_eq_false_iff]
              refine .inl (Bool.eq_false_iff.2 fun h => ?_)
              simp [swB] at h
              omega)
            rw [show decide (subs.length = 1) = true from by simpa using hl, Bool.not_true] at l1
            have T := Lib.hid hl
            clear hl
            clear HR IH HN hx44
            go_wp2
            go_ret
            exact ⟨by rw [HR2.out]; rfl, hxw⟩
          · by_cases h5 : 255 < mx
            · have HR2 := Lib.hid (show res = false by
                rw [HR.out, Bool.and_eq_false_iff]
                refine .inl (Bool.eq_false_iff.2 fun h => ?_)
                simp [swB] at h
                omega)
              rw [show decide (subs.length = 1) = true from by simpa using hl, Bool.not_true] at l1
              have T := Lib.hid hl
              clear hl
              clear HR IH HN hx44
              go_wp2
              go_ret
              exact ⟨by rw [HR2.out]; rfl, hxw⟩
            · by_cases hp : 0 ≤ mx
              · by_cases h7 : mx < mn
                · have HR2 := Lib.hid (show res = false by
                    rw [HR.out, Bool.and_eq_false_iff]
                    refine .inl (Bool.eq_false_iff.2 fun h => ?_)
                    simp [swB] at h
                    omega)
                  clear HR IH HN hx44
                  go_wp2
                  go_ret
                  exact ⟨by rw [HR2.out]; rfl, hxw⟩
                · cases bare
                  · have HR2 := Lib.hid (show res = formL subs by
                      rw [HR.out, show swB _ subs.length = true from by simp [swB]; omega, Bool.true_and])
                    rw [show decide (subs.length = 1) = true from by simpa using hl, Bool.not_true] at l1
                    have T := Lib.hid hl
                    clear hl
                    clear HR
                    go_wp2
                    go_loopw [5] (fun i wr => ∃ k : Nat, k ≤ subs.length ∧ i = .int .i64 k ∧ formL (subs.take k) = true ∧ Ext w4 wr) (fun i _ => subs.length - (intOf i).toNat)
                    case atStart => exact ⟨0, Nat.zero_le _, rfl, by rw [List.take_zero, formL], hx44⟩
                    case round =>
                      clear hx44 c0 c6 c7 c8 c9 l0 l1
                      obtain ⟨k, hk, rfl, hfl, hx⟩ := hrel
                      have HL := Lib.hid hfl
                      clear hfl
                      replace c5 := hx.cell c5
                      by_cases hlt : k < subs.length
                      · obtain ⟨g0, o0, sv, rfl, hat, hok⟩ := HN.out.get k hlt
                        have hxw2 := hxw.trans hx
                        replace hat := hat.ext hxw2
                        have HST := Lib.hid (show formL (subs.take (k + 1)) = formB subs[k] by rw [take_snoc subs k hlt, formL_app, HL.out, formL_one, Bool.true_and])
                        have HEN := Lib.hid (show formB subs[k] = false → formL subs = false from fun h => by rw [← List.take_append_drop (k + 1) subs, formL_app, HST.out, h, Bool.false_and])
                        have IHk := Lib.hid (IH.out subs[k] (List.getElem_mem hlt) sv wr (NdOk.ext hxw2 _ _ hok))
                        clear IH HN HL hok
                        generalize formB subs[k] = pk at *
                        generalize subs[k] = nk at *
                        have t1 : (k : Int) < (subs.length : Int) := by omega
                        cases pk
                        all_goals
                          go_wp2_with (first
                            | (refine wpl_loadNd rfl _ rfl g0 (o0 + k * 10) nk.h sv rfl hat ?_)
                            | (go_at_call 76; refine IHk.out.mono ?_; rintro e w6 ⟨rfl, hx6⟩))
                        · go_ret
                          exact ⟨by rw [HR2.out, HEN.out trivial]; rfl, hxw2.trans hx6⟩
                        · go_roundw
                          case rel => exact ⟨k + 1, by omega, by go_num, HST.out, hx.trans hx6⟩
                          case measure => simp [intOf]; omega
                      · have hkl : subs.take k = subs := List.take_of_length_le (by omega)
                        rw [hkl] at HL
                        have t1 : ¬ (k : Int) < (subs.length : Int) := by omega
                        clear IH HN hkl
                        go_wp2
                        go_ret
                        exact ⟨by rw [HR2.out, HL.out]; rfl, hxw.trans hx⟩
                  · by_cases hz : mn = 0
                    · have HR2 := Lib.hid (show res = formL subs by
                        rw [HR.out, show swB _ subs.length = true from by simp [swB]; omega, Bool.true_and])
                      rw [show decide (subs.length = 1) = true from by simpa using hl, Bool.not_true] at l1
                      have T := Lib.hid hl
                      clear hl
                      subst hz
                      clear HR
                      go_wp2
                      go_loopw [5] (fun i wr => ∃ k : Nat, k ≤ subs.length ∧ i = .int .i64 k ∧ formL (subs.take k) = true ∧ Ext w4 wr) (fun i _ => subs.length - (intOf i).toNat)
                      case atStart => exact ⟨0, Nat.zero_le _, rfl, by rw [List.take_zero, formL], hx44⟩
                      case round =>
                        clear hx44 c0 c6 c7 c8 c9 l0 l1
                        obtain ⟨k, hk, rfl, hfl, hx⟩ := hrel
                        have HL := Lib.hid hfl
                        clear hfl
                        replace c5 := hx.cell c5
                        by_cases hlt : k < subs.length
                        · obtain ⟨g0, o0, sv, rfl, hat, hok⟩ := HN.out.get k hlt
                          have hxw2 := hxw.trans hx
                          replace hat := hat.ext hxw2
                          have HST := Lib.hid (show formL (subs.take (k + 1)) = formB subs[k] by rw [take_snoc subs k hlt, formL_app, HL.out, formL_one, Bool.true_and])
                          have HEN := Lib.hid (show formB subs[k] = false → formL subs = false from fun h => by rw [← List.take_append_drop (k + 1) subs, formL_app, HST.out, h, Bool.false_and])
                          have IHk := Lib.hid (IH.out subs[k] (List.getElem_mem hlt) sv wr (NdOk.ext hxw2 _ _ hok))
                          clear IH HN HL hok
                          generalize formB subs[k] = pk at *
                          generalize subs[k] = nk at *
                          have t1 : (k : Int) < (subs.length : Int) := by omega
                          cases pk
                          all_goals
                            go_wp2_with (first
                              | (refine wpl_loadNd rfl _ rfl g0 (o0 + k * 10) nk.h sv rfl hat ?_)
                              | (go_at_call 76; refine IHk.out.mono ?_; rintro e w6 ⟨rfl, hx6⟩))
                          · go_ret
                            exact ⟨by rw [HR2.out, HEN.out trivial]; rfl, hxw2.trans hx6⟩
                          · go_roundw
                            case rel => exact ⟨k + 1, by omega, by go_num, HST.out, hx.trans hx6⟩
                            case measure => simp [intOf]; omega
                        · have hkl : subs.take k = subs := List.take_of_length_le (by omega)
                          rw [hkl] at HL
                          have t1 : ¬ (k : Int) < (subs.length : Int) := by omega
                          clear IH HN hkl
                          go_wp2
                          go_ret
                          exact ⟨by rw [HR2.out, HL.out]; rfl, hxw.trans hx⟩
                    · have HR2 := Lib.hid (show res = false by
                        rw [HR.out, Bool.and_eq_false_iff]
                        refine .inl (Bool.eq_false_iff.2 fun h => ?_)
                        simp [swB] at h
                        omega)
                      rw [show decide (subs.length = 1) = true from by simpa using hl, Bool.not_true] at l1
                      have T := Lib.hid hl
                      clear hl
                      have n1 : (mn != 0) = true := by simpa using hz
                      clear HR IH HN hx44
                      go_wp2
                      go_ret
                      exact ⟨by rw [HR2.out]; rfl, hxw⟩
              · cases bare
                · have HR2 := Lib.hid (show res = formL subs by
                    rw [HR.out, show swB _ subs.length = true from by simp [swB]; omega, Bool.true_and])
                  rw [show decide (subs.length = 1) = true from by simpa using hl, Bool.not_true] at l1
                  have T := Lib.hid hl
                  clear hl
                  clear HR
                  go_wp2
                  go_loopw [5] (fun i wr => ∃ k : Nat, k ≤ subs.length ∧ i = .int .i64 k ∧ formL (subs.take k) = true ∧ Ext w4 wr) (fun i _ => subs.length - (intOf i).toNat)
                  case atStart => exact ⟨0, Nat.zero_le _, rfl, by rw [List.take_zero, formL], hx44⟩
                  case round =>
                    clear hx44 c0 c6 c7 c8 c9 l0 l1
                    obtain ⟨k, hk, rfl, hfl, hx⟩ := hrel
                    have HL := Lib.hid hfl
                    clear hfl
                    replace c5 := hx.cell c5
                    by_cases hlt : k < subs.length
                    · obtain ⟨g0, o0, sv, rfl, hat, hok⟩ := HN.out.get k hlt
                      have hxw2 := hxw.trans hx
                      replace hat := hat.ext hxw2
                      have HST := Lib.hid (show formL (subs.take (k + 1)) = formB subs[k] by rw [take_snoc subs k hlt, formL_app, HL.out, formL_one, Bool.true_and])
                      have HEN := Lib.hid (show formB subs[k] = false → formL subs = false from fun h => by rw [← List.take_append_drop (k + 1) subs, formL_app, HST.out, h, Bool.false_and])
                      have IHk := Lib.hid (IH.out subs[k] (List.getElem_mem hlt) sv wr (NdOk.ext hxw2 _ _ hok))
                      clear IH HN HL hok
                      generalize formB subs[k] = pk at *
                      generalize subs[k] = nk at *
                      have t1 : (k : Int) < (subs.length : Int) := by omega
                      cases pk
                      all_goals
                        go_wp2_with (first
                          | (refine wpl_loadNd rfl _ rfl g0 (o0 + k * 10) nk.h sv rfl hat ?_)
                          | (go_at_call 76; refine IHk.out.mono ?_; rintro e w6 ⟨rfl, hx6⟩))
                      · go_ret
                        exact ⟨by rw [HR2.out, HEN.out trivial]; rfl, hxw2.trans hx6⟩
                      · go_roundw
                        case rel => exact ⟨k + 1, by omega, by go_num, HST.out, hx.trans hx6⟩
                        case measure => simp [intOf]; omega
                    · have hkl : subs.take k = subs := List.take_of_length_le (by omega)
                      rw [hkl] at HL
                      have t1 : ¬ (k : Int) < (subs.length : Int) := by omega
                      clear IH HN hkl
                      go_wp2
                      go_ret
                      exact ⟨by rw [HR2.out, HL.out]; rfl, hxw.trans hx⟩
                · by_cases hz : mn = 0
                  · have HR2 := Lib.hid (show res = formL subs by
                      rw [HR.out, show swB _ subs.length = true from by simp [swB]; omega, Bool.true_and])
                    rw [show decide (subs.length = 1) = true from by simpa using hl, Bool.not_true] at l1
                    have T := Lib.hid hl
                    clear hl
                    subst hz
                    clear HR
                    go_wp2
                    go_loopw [5] (fun i wr => ∃ k : Nat, k ≤ subs.length ∧ i = .int .i64 k ∧ formL (subs.take k) = true ∧ Ext w4 wr) (fun i _ => subs.length - (intOf i).toNat)
                    case atStart => exact ⟨0, Nat.zero_le _, rfl, by rw [List.take_zero, formL], hx44⟩
                    case round =>
                      clear hx44 c0 c6 c7 c8 c9 l0 l1
                      obtain ⟨k, hk, rfl, hfl, hx⟩ := hrel
                      have HL := Lib.hid hfl
                      clear hfl
                      replace c5 := hx.cell c5
                      by_cases hlt : k < subs.length
                      · obtain ⟨g0, o0, sv, rfl, hat, hok⟩ := HN.out.get k hlt
                        have hxw2 := hxw.trans hx
                        replace hat := hat.ext hxw2
                        have HST := Lib.hid (show formL (subs.take (k + 1)) = formB subs[k] by rw [take_snoc subs k hlt, formL_app, HL.out, formL_one, Bool.true_and])
                        have HEN := Lib.hid (show formB subs[k] = false → formL subs = false from fun h => by rw [← List.take_append_drop (k + 1) subs, formL_app, HST.out, h, Bool.false_and])
                        have IHk := Lib.hid (IH.out subs[k] (List.getElem_mem hlt) sv wr (NdOk.ext hxw2 _ _ hok))
                        clear IH HN HL hok
                        generalize formB subs[k] = pk at *
                        generalize subs[k] = nk at *
                        have t1 : (k : Int) < (subs.length : Int) := by omega
                        cases pk
                        all_goals
                          go_wp2_with (first
                            | (refine wpl_loadNd rfl _ rfl g0 (o0 + k * 10) nk.h sv rfl hat ?_)
                            | (go_at_call 76; refine IHk.out.mono ?_; rintro e w6 ⟨rfl, hx6⟩))
                        · go_ret
                          exact ⟨by rw [HR2.out, HEN.out trivial]; rfl, hxw2.trans hx6⟩
                        · go_roundw
                          case rel => exact ⟨k + 1, by omega, by go_num, HST.out, hx.trans hx6⟩
                          case measure => simp [intOf]; omega
                      · have hkl : subs.take k = subs := List.take_of_length_le (by omega)
                        rw [hkl] at HL
                        have t1 : ¬ (k : Int) < (subs.length : Int) := by omega
                        clear IH HN hkl
                        go_wp2
                        go_ret
                        exact ⟨by rw [HR2.out, HL.out]; rfl, hxw.trans hx⟩
                  · have HR2 := Lib.hid (show res = false by
                      rw [HR.out, Bool.and_eq_false_iff]
                      refine .inl (Bool.eq_false_iff.2 fun h => ?_)
                      simp [swB] at h
                      omega)
                    rw [show decide (subs.length = 1) = true from by simpa using hl, Bool.not_true] at l1
                    have T := Lib.hid hl
                    clear hl
                    have n1 : (mn != 0) = true := by simpa using hz
                    clear HR IH HN hx44
                    go_wp2
                    go_ret
                    exact ⟨by rw [HR2.out]; rfl, hxw⟩
    · have HR2 := Lib.hid (show res = false by
        rw [HR.out, Bool.and_eq_false_iff]
        refine .inl (Bool.eq_false_iff.2 fun h => ?_)
        simp [swB] at h
        omega)
      rw [show decide (subs.length = 1) = false from by simpa using hl, Bool.not_false] at l1
      have T := Lib.hid hl
      clear hl
      clear HR IH HN hx44
      go_wp2
      go_ret
      exact ⟨by rw [HR2.out]; rfl, hxw⟩
  rcases (show kind = 1 ∨ kind = 2 ∨ kind = 3 ∨ kind = 4 from by omega) with rfl | rfl | rfl | rfl
  all_goals
    clear h56 h7 h8 hkk
    by_cases hl : subs.length = 0
    · have HR2 := Lib.hid (show res = formL subs by
        rw [HR.out, show swB _ subs.length = true from by simp [swB, hl], Bool.true_and])
      rw [show decide (subs.length = 0) = true from by simpa using hl, Bool.not_true] at l0
      have T := Lib.hid hl
      clear hl
      clear HR
      go_wp2
      go_loopw [5] (fun i wr => ∃ k : Nat, k ≤ subs.length ∧ i = .int .i64 k ∧ formL (subs.take k) = true ∧ Ext w4 wr) (fun i _ => subs.length - (intOf i).toNat)
      case atStart => exact ⟨0, Nat.zero_le _, rfl, by rw [List.take_zero, formL], hx44⟩
      case round =>
        clear hx44 c0 c6 c7 c8 c9 l0 l1
        obtain ⟨k, hk, rfl, hfl, hx⟩ := hrel
        have HL := Lib.hid hfl
        clear hfl
        replace c5 := hx.cell c5
        by_cases hlt : k < subs.length
        · obtain ⟨g0, o0, sv, rfl, hat, hok⟩ := HN.out.get k hlt
          have hxw2 := hxw.trans hx
          replace hat := hat.ext hxw2
          have HST := Lib.hid (show formL (subs.take (k + 1)) = formB subs[k] by rw [take_snoc subs k hlt, formL_app, HL.out, formL_one, Bool.true_and])
          have HEN := Lib.hid (show formB subs[k] = false → formL subs = false from fun h => by rw [← List.take_append_drop (k + 1) subs, formL_app, HST.out, h, Bool.false_and])
          have IHk := Lib.hid (IH.out subs[k] (List.getElem_mem hlt) sv wr (NdOk.ext hxw2 _ _ hok))
          clear IH HN HL hok
          generalize formB subs[k] = pk at *
          generalize subs[k] = nk at *
          have t1 : (k : Int) < (subs.length : Int) := by omega
          cases pk
          all_goals
            go_wp2_with (first
              | (refine wpl_loadNd rfl _ rfl g0 (o0 + k * 10) nk.h sv rfl hat ?_)
              | (go_at_call 76; refine IHk.out.mono ?_; rintro e w6 ⟨rfl, hx6⟩))
          · go_ret
            exact ⟨by rw [HR2.out, HEN.out trivial]; rfl, hxw2.trans hx6⟩
          · go_roundw
            case rel => refine ⟨_, _, _, _, _, _, _, _, _, _, _, _, _, _, _, _, ?_, by congr 1⟩; exact ⟨k + 1, by omega, by go_num, HST.out, hx.trans hx6⟩
            case measure => simp [intOf]; omega
        · have hkl : subs.take k = subs := List.take_of_length_le (by omega)
          rw [hkl] at HL
          have t1 : ¬ (k : Int) < (subs.length : Int) := by omega
          clear IH HN hkl
          go_wp2
          go_ret
          exact ⟨by rw [HR2.out, HL.out]; rfl, hxw.trans hx⟩
    · have HR2 := Lib.hid (show res = false by
        rw [HR.out, Bool.and_eq_false_iff]
        refine .inl (Bool.eq_false_iff.2 fun h => ?_)
        simp [swB, hl] at h)
      rw [show decide (subs.length = 0) = false from by simpa using hl, Bool.not_false] at l0
      have T := Lib.hid hl
      clear hl
      clear HR IH HN hx44
      go_wp2
      go_ret
      exact ⟨by rw [HR2.out]; rfl, hxw⟩

end Go.Proofs.YthddlhpndaffjaaDoor
