/- Lengths of a tree's image (printed off XIEnc's head, for ImageBack's claim alone: never import both). No program. trawlnum.SameNodes, tree.Same, trawlref14.Same as contracts. Condition: both trees lie in memory, the first one's lists are short. A right tree's image names it: what Decode makes of an image, of a beginning of it, of more than it; alike trees have one image. No program but the texts' definitions. 'append(b, more...)' onto the program's own bytes, more as long as a process's memory bears. No condition. A []byte that came in is no longer than a process's memory bears. No condition. The law ImageBack: a right tree comes back; no image begins another one. Condition: the bytes lie in memory, the error values lie where they lie. -/
import Derived.Test.YthddlhpndaffjaaDoorIRd
import Derived.Test.YthddlhpndaffjaaDoorSameP
import Derived.Test.YthddlhpndaffjaaDoorNodeS
namespace Go.Proofs.YthddlhpndaffjaaDoor
open Go Go.RowKit

mutual
theorem few_nodes : ∀ (n : Nd) (m : Int), 0 ≤ leftN n m → nodesN n ≤ m
  | .mk h s, m, hm => by
    rw [leftN] at hm
    have := fewL_nodes s (m - 1) hm
    rw [nodesN]; omega
theorem fewL_nodes : ∀ (l : List Nd) (m : Int), 0 ≤ leftL l m → nodesL l ≤ m
  | [], m, hm => by rw [leftL] at hm; rw [nodesL]; exact hm
  | n :: r, m, hm => by
    have h0 : 0 ≤ m := Int.not_lt.1 fun h => by rw [leftL_neg _ _ h] at hm; omega
    rw [leftL, if_pos h0] at hm
    have h2 := fewL_nodes r _ hm
    have hp := nodesL_pos r
    have h3 := few_nodes n m (by omega)
    rw [left_nodes n m h3] at h2
    rw [nodesL]; omega
end
mutual
theorem short_nodes : ∀ (n : Nd), nodesN n < 16384 → shortN n
  | .mk h s, hn => by
    rw [nodesN] at hn
    have := nodesL_len s
    exact ⟨by omega, shortL_nodes s (by omega)⟩
theorem shortL_nodes : ∀ (l : List Nd), nodesL l < 16384 → shortL l
  | [], _ => trivial
  | n :: r, hn => by
    rw [nodesL] at hn
    have h1 := nodesN_pos n
    have h2 := nodesL_pos r
    exact ⟨short_nodes n (by omega), shortL_nodes r (by omega)⟩
end
theorem headB_len {h : Hd} {l : Nat} (hf : formedB h l = true) (hl : l < 16384) : (headB h l).length ≤ 39 := by
  by_cases h2 : h.kind = 2
  · rw [headB2 h2, setB_len]; omega
  by_cases h5 : h.kind = 5 ∨ h.kind = 6
  · rw [headB5 h5]; have := numB_len hl; omega
  by_cases h7 : h.kind = 7
  · rw [headB7 h7]
    have := formed_num hf h7
    have := numB_len (show h.num.toNat < 16384 by omega)
    omega
  by_cases h8 : h.kind = 8
  · rw [headB8 h8]
    have hr := formed_rep hf h8
    have h1 := numB_len (show h.min.toNat < 16384 by omega)
    have h2 := numB_len (show (h.max + 1).toNat < 16384 by omega)
    simp only [List.length_append, List.length_singleton]
    omega
  · rw [headB0 (by omega)]; simp
mutual
theorem img_len : ∀ (n : Nd), formB n = true → shortN n → ((imgN n).length : Int) ≤ 40 * nodesN n
  | .mk h s, hf, hs => by
    rw [formB, Bool.and_eq_true] at hf
    have h1 := headB_len hf.1 hs.1
    have h2 := imgL_len s hf.2 hs.2
    rw [imgN, nodesN]
    simp only [List.length_cons, List.length_append]
    omega
theorem imgL_len : ∀ (l : List Nd), formL l = true → shortL l → ((imgL l).length : Int) ≤ 40 * nodesL l
  | [], _, _ => by rw [imgL, nodesL]; simp
  | n :: r, hf, hs => by
    rw [formL, Bool.and_eq_true] at hf
    have h1 := img_len n hf.1 hs.1
    have h2 := imgL_len r hf.2 hs.2
    rw [imgL, nodesL, List.length_append]
    omega
end
theorem enc_len {n : Nd} (hs : shortN n) (hn : nodesN n ≤ 3000) : (encR n (chkN n)).length ≤ 200000 := by
  unfold encR
  split
  · rename_i hc
    have := img_len n (chk_ok hc).1 hs
    simp only [List.length_append, magic, List.length_cons, List.length_nil]
    omega
  · simp

end Go.Proofs.YthddlhpndaffjaaDoor

namespace Go.Proofs.YthddlhpndaffjaaDoor
open Go Go.RowKit


set_option maxRecDepth 100000 in
set_option maxHeartbeats 8000000 in
theorem sameNodes_any : ∀ (a : Nd) (sva : Value) (b : Nd) (svb : Value) (w : World), NdOk w a sva → NdOk w b svb → smallN a →
    Calls Tryd.prog 21 #[nodeV a.h sva, nodeV b.h svb] w fun r w' => r = .returned (.bool (sameN a b)) ∧ Ext w w' := by
  refine Nd.ind fun hd subs ih sva b svb w hn hn' hsm => ?_
  obtain ⟨hd', subs'⟩ := b
  obtain ⟨A, c, rfl⟩ := hn.shape
  obtain ⟨A', c', rfl⟩ := hn'.shape
  obtain ⟨hlen, hsm⟩ := hsm
  have IH := Lib.hid (fun n hm sv b svb w hn hn' => ih n hm sv b svb w hn hn' (smallL_mem hsm n hm))
  have HN := Lib.hid hn
  have HN' := Lib.hid hn'
  have HR := Lib.hid (by rw [sameN] : sameN (.mk hd subs) (.mk hd' subs') = (sameH hd hd' && decide (subs.length = subs'.length) && sameL subs subs'))
  clear ih hsm hn hn'
  generalize sameN (.mk hd subs) (.mk hd' subs') = res at *
  simp only [Nd.h, Nd.subs] at *
  go_enter Tryd.func21, Tryd.ntmps21
  go_upto_region 1 with (first
    | (refine wpl_boxNd rfl _ rfl hd _ rfl ?_; intro x w1 hb hx1 ex sx)
    | (refine wpl_boxNd rfl _ rfl hd' _ rfl ?_; intro y w2 hc hx2 ey sy))
  have hb2 := hb.ext hx2
  have hx12 := hx1.trans hx2
  clear hb hx1 hx2 ex sx ey sy
  have c5 : w2.cell? ⟨x, 5, none⟩ = some (.slice A subs.length c) := hb2.cell 5
  have d5 : w2.cell? ⟨y, 5, none⟩ = some (.slice A' subs'.length c') := hc.cell 5
  go_cut [54] (fun v wx => v = .bool (!(sameH hd hd' && decide (subs.length = subs'.length))) ∧ w2 = wx)
  case first =>
    have c0 : w2.cell? ⟨x, 0, none⟩ = some (.int .i64 hd.kind) := hb2.cell 0
    have c1 : w2.cell? ⟨x, 1, none⟩ = some (.int .u64 (wd hd.set 0 : Int)) := hb2.cell 1
    have c2 : w2.cell? ⟨x, 2, none⟩ = some (.int .u64 (wd hd.set 1 : Int)) := hb2.cell 2
    have c3 : w2.cell? ⟨x, 3, none⟩ = some (.int .u64 (wd hd.set 2 : Int)) := hb2.cell 3
    have c4 : w2.cell? ⟨x, 4, none⟩ = some (.int .u64 (wd hd.set 3 : Int)) := hb2.cell 4
    have c6 : w2.cell? ⟨x, 6, none⟩ = some (.int .i64 hd.num) := hb2.cell 6
    have c7 : w2.cell? ⟨x, 7, none⟩ = some (.int .i64 hd.min) := hb2.cell 7
    have c8 : w2.cell? ⟨x, 8, none⟩ = some (.int .i64 hd.max) := hb2.cell 8
    have c9 : w2.cell? ⟨x, 9, none⟩ = some (.bool hd.bare) := hb2.cell 9
    have d0 : w2.cell? ⟨y, 0, none⟩ = some (.int .i64 hd'.kind) := hc.cell 0
    have d1 : w2.cell? ⟨y, 1, none⟩ = some (.int .u64 (wd hd'.set 0 : Int)) := hc.cell 1
    have d2 : w2.cell? ⟨y, 2, none⟩ = some (.int .u64 (wd hd'.set 1 : Int)) := hc.cell 2
    have d3 : w2.cell? ⟨y, 3, none⟩ = some (.int .u64 (wd hd'.set 2 : Int)) := hc.cell 3
    have d4 : w2.cell? ⟨y, 4, none⟩ = some (.int .u64 (wd hd'.set 3 : Int)) := hc.cell 4
    have d6 : w2.cell? ⟨y, 6, none⟩ = some (.int .i64 hd'.num) := hc.cell 6
    have d7 : w2.cell? ⟨y, 7, none⟩ = some (.int .i64 hd'.min) := hc.cell 7
    have d8 : w2.cell? ⟨y, 8, none⟩ = some (.int .i64 hd'.max) := hc.cell 8
    have d9 : w2.cell? ⟨y, 9, none⟩ = some (.bool hd'.bare) := hc.cell 9
    have hne := neq_set hd.set hd'.set
    have hS := Lib.hid (show sameH hd hd' = (decide (hd.kind = hd'.kind) && wordsB hd.set hd'.set && decide (hd.num = hd'.num) && decide (hd.min = hd'.min) && decide (hd.max = hd'.max) && (hd.bare == hd'.bare)) from rfl)
    clear HR IH HN HN' hb2 hc hx12
    generalize sameH hd hd' = sh at *
    generalize hd.kind = k1 at *
    generalize hd'.kind = k2 at *
    generalize hd.num = n1 at *
    generalize hd'.num = n2 at *
    generalize hd.min = m1 at *
    generalize hd'.min = m2 at *
    generalize hd.max = x1 at *
    generalize hd'.max = x2 at *
    generalize hd.bare = b1 at *
    generalize hd'.bare = b2 at *
    generalize wordsB hd.set hd'.set = ws at *
    have e0 : ((subs.length : Int) != (subs'.length : Int)) = !decide (subs.length = subs'.length) := by
      by_cases h : subs.length = subs'.length
      · simp [h]
      · have h2 : ¬ ((subs.length : Int) = (subs'.length : Int)) := by omega
        simp [h, h2]
    generalize decide (subs.length = subs'.length) = q at *
    by_cases t1 : k1 = k2
    case' neg => have e1 : (k1 != k2) = true := by simpa using t1
    case' pos =>
      subst t1
      cases ws
      case' true =>
        by_cases t3 : n1 = n2
        case' neg => have e1 : (n1 != n2) = true := by simpa using t3
        case' pos =>
          subst t3
          by_cases t4 : m1 = m2
          case' neg => have e1 : (m1 != m2) = true := by simpa using t4
          case' pos =>
            subst t4
            by_cases t5 : x1 = x2
            case' neg => have e1 : (x1 != x2) = true := by simpa using t5
            case' pos =>
              subst t5
              cases b1 <;> cases b2 <;> cases q
              all_goals
                simp only [Bool.not_true, Bool.not_false] at e0
    all_goals
      go_wp2
      all_goals
        go_meet
        case rel => exact ⟨by rw [hS.out]; first | (simp; done) | (simp [*]; done), rfl⟩
  obtain ⟨rfl, rfl⟩ := hcut
  clear hb2 hc
  cases hS : (sameH hd hd' && decide (subs.length = subs'.length))
  · have HR2 := Lib.hid (show res = false by rw [HR.out, hS, Bool.false_and])
    clear HR IH HN HN' hS
    go_wp2
    go_ret
    exact ⟨by rw [HR2.out]; rfl, hx12⟩
  · have HR2 := Lib.hid (show res = sameL subs subs' by rw [HR.out, hS, Bool.true_and])
    have hll : subs.length = subs'.length := by
      rw [Bool.and_eq_true, decide_eq_true_eq] at hS
      exact hS.2
    have HLL := Lib.hid hll
    clear HR hS hll
    have hx22 : Ext w2 w2 := Ext.refl w2
    simp only [Bool.not_true]
    go_wp2
    go_loopw [58] (fun i wr => ∃ k : Nat, k ≤ subs.length ∧ i = .int .i64 k ∧ sameL (subs.take k) (subs'.take k) = true ∧ Ext w2 wr) (fun i _ => subs.length - (intOf i).toNat)
    case atStart => exact ⟨0, Nat.zero_le _, rfl, by rw [List.take_zero, sameL], hx22⟩
    case round =>
      clear hx22
      obtain ⟨k, hk, rfl, hfl, hx⟩ := hrel
      have HL := Lib.hid hfl
      clear hfl
      replace c5 := hx.cell c5
      replace d5 := hx.cell d5
      by_cases hlt : k < subs.length
      · have hlt' : k < subs'.length := HLL.out ▸ hlt
        obtain ⟨g0, o0, sv, rfl, hat, hok⟩ := HN.out.get k hlt
        obtain ⟨g1, o1, sv', rfl, hat', hok'⟩ := HN'.out.get k hlt'
        have hxw := hx12.trans hx
        replace hat := (hat.ext hxw).drew
        replace hat' := (hat'.ext hxw).drew
        have HST := Lib.hid (sameL_step hlt hlt' HL.out)
        have HEN := Lib.hid (fun h => sameL_stop hlt hlt' h)
        have IHk := Lib.hid (IH.out subs[k] (List.getElem_mem hlt) sv subs'[k] sv' wr.drew (NdOk.ext hxw.drewr _ _ hok) (NdOk.ext hxw.drewr _ _ hok'))
        clear IH HN HN' HL hok hok'
        generalize sameN subs[k] subs'[k] = pk at *
        generalize subs[k] = nk at *
        generalize subs'[k] = nk' at *
        have t1 : (k : Int) < (subs.length : Int) := by omega
        have t2 : (k : Int) < (subs'.length : Int) := by omega
        go_upto_region 6 with fail
        refine wp_region_still_tail 10 (by kernel_rfl) (by kernel_rfl) ?_
        simp only [List.take_succ_cons, List.take_zero, List.drop_succ_cons, List.drop_zero]
        repeat still_step
        refine wpStill_loadNd _ rfl rfl g0 (o0 + k * 10) _ sv rfl hat ?_
        repeat still_step
        refine wpStill_loadNd _ rfl rfl g1 (o1 + k * 10) _ sv' rfl hat' ?_
        repeat still_step
        refine wpStill_nil ?_
        change wpList _ _ _ _ _ wr.drew
        clear hat hat'
        cases pk
        all_goals
          go_wp2_with (go_at_call 21; refine IHk.out.mono ?_; rintro e w6 ⟨rfl, hx6⟩)
        · go_ret
          exact ⟨by rw [HR2.out, HEN.out trivial]; rfl, hxw.drewr.trans hx6⟩
        · go_roundw
          case rel => exact ⟨k + 1, by omega, by go_num, HST.out, hx.drewr.trans hx6⟩
          case measure => simp [intOf]; omega
      · have hkl : subs.take k = subs := List.take_of_length_le (by omega)
        have hkl' : subs'.take k = subs' := List.take_of_length_le (by have := HLL.out; omega)
        rw [hkl, hkl'] at HL
        have t1 : ¬ (k : Int) < (subs.length : Int) := by omega
        clear IH HN HN' hkl hkl'
        go_wp2
        go_ret
        exact ⟨by rw [HR2.out, HL.out]; rfl, hx12.trans hx⟩

set_option maxRecDepth 100000 in
set_option maxHeartbeats 8000000 in
theorem same_any : ∀ (a : Nd) (sva : Value) (b : Nd) (svb : Value) (w : World), NdOk w a sva → NdOk w b svb → smallN a →
    Calls Tryd.prog 35 #[nodeV a.h sva, nodeV b.h svb] w fun r w' => r = .returned (.bool (sameN a b)) ∧ Ext w w' := by
  refine Nd.ind fun hd subs ih sva b svb w hn hn' hsm => ?_
  obtain ⟨hd', subs'⟩ := b
  obtain ⟨A, c, rfl⟩ := hn.shape
  obtain ⟨A', c', rfl⟩ := hn'.shape
  obtain ⟨hlen, hsm⟩ := hsm
  have IH := Lib.hid (fun n hm sv b svb w hn hn' => ih n hm sv b svb w hn hn' (smallL_mem hsm n hm))
  have HN := Lib.hid hn
  have HN' := Lib.hid hn'
  have HR := Lib.hid (by rw [sameN] : sameN (.mk hd subs) (.mk hd' subs') = (sameH hd hd' && decide (subs.length = subs'.length) && sameL subs subs'))
  clear ih hsm hn hn'
  generalize sameN (.mk hd subs) (.mk hd' subs') = res at *
  simp only [Nd.h, Nd.subs] at *
  go_enter Tryd.func35, Tryd.ntmps35
  go_upto_region 1 with (first
    | (refine wpl_boxNd rfl _ rfl hd _ rfl ?_; intro x w1 hb hx1 ex sx)
    | (refine wpl_boxNd rfl _ rfl hd' _ rfl ?_; intro y w2 hc hx2 ey sy))
  have hb2 := hb.ext hx2
  have hx12 := hx1.trans hx2
  clear hb hx1 hx2 ex sx ey sy
  have c5 : w2.cell? ⟨x, 5, none⟩ = some (.slice A subs.length c) := hb2.cell 5
  have d5 : w2.cell? ⟨y, 5, none⟩ = some (.slice A' subs'.length c') := hc.cell 5
  go_cut [54] (fun v wx => v = .bool (!(sameH hd hd' && decide (subs.length = subs'.length))) ∧ w2 = wx)
  case first =>
    have c0 : w2.cell? ⟨x, 0, none⟩ = some (.int .i64 hd.kind) := hb2.cell 0
    have c1 : w2.cell? ⟨x, 1, none⟩ = some (.int .u64 (wd hd.set 0 : Int)) := hb2.cell 1
    have c2 : w2.cell? ⟨x, 2, none⟩ = some (.int .u64 (wd hd.set 1 : Int)) := hb2.cell 2
    have c3 : w2.cell? ⟨x, 3, none⟩ = some (.int .u64 (wd hd.set 2 : Int)) := hb2.cell 3
    have c4 : w2.cell? ⟨x, 4, none⟩ = some (.int .u64 (wd hd.set 3 : Int)) := hb2.cell 4
    have c6 : w2.cell? ⟨x, 6, none⟩ = some (.int .i64 hd.num) := hb2.cell 6
    have c7 : w2.cell? ⟨x, 7, none⟩ = some (.int .i64 hd.min) := hb2.cell 7
    have c8 : w2.cell? ⟨x, 8, none⟩ = some (.int .i64 hd.max) := hb2.cell 8
    have c9 : w2.cell? ⟨x, 9, none⟩ = some (.bool hd.bare) := hb2.cell 9
    have d0 : w2.cell? ⟨y, 0, none⟩ = some (.int .i64 hd'.kind) := hc.cell 0
    have d1 : w2.cell? ⟨y, 1, none⟩ = some (.int .u64 (wd hd'.set 0 : Int)) := hc.cell 1
    have d2 : w2.cell? ⟨y, 2, none⟩ = some (.int .u64 (wd hd'.set 1 : Int)) := hc.cell 2
    have d3 : w2.cell? ⟨y, 3, none⟩ = some (.int .u64 (wd hd'.set 2 : Int)) := hc.cell 3
    have d4 : w2.cell? ⟨y, 4, none⟩ = some (.int .u64 (wd hd'.set 3 : Int)) := hc.cell 4
    have d6 : w2.cell? ⟨y, 6, none⟩ = some (.int .i64 hd'.num) := hc.cell 6
    have d7 : w2.cell? ⟨y, 7, none⟩ = some (.int .i64 hd'.min) := hc.cell 7
    have d8 : w2.cell? ⟨y, 8, none⟩ = some (.int .i64 hd'.max) := hc.cell 8
    have d9 : w2.cell? ⟨y, 9, none⟩ = some (.bool hd'.bare) := hc.cell 9
    have hne := neq_set hd.set hd'.set
    have hS := Lib.hid (show sameH hd hd' = (decide (hd.kind = hd'.kind) && wordsB hd.set hd'.set && decide (hd.num = hd'.num) && decide (hd.min = hd'.min) && decide (hd.max = hd'.max) && (hd.bare == hd'.bare)) from rfl)
    clear HR IH HN HN' hb2 hc hx12
    generalize sameH hd hd' = sh at *
    generalize hd.kind = k1 at *
    generalize hd'.kind = k2 at *
    generalize hd.num = n1 at *
    generalize hd'.num = n2 at *
    generalize hd.min = m1 at *
    generalize hd'.min = m2 at *
    generalize hd.max = x1 at *
    generalize hd'.max = x2 at *
    generalize hd.bare = b1 at *
    generalize hd'.bare = b2 at *
    generalize wordsB hd.set hd'.set = ws at *
    have e0 : ((subs.length : Int) != (subs'.length : Int)) = !decide (subs.length = subs'.length) := by
      by_cases h : subs.length = subs'.length
      · simp [h]
      · have h2 : ¬ ((subs.length : Int) = (subs'.length : Int)) := by omega
        simp [h, h2]
    generalize decide (subs.length = subs'.length) = q at *
    by_cases t1 : k1 = k2
    case' neg => have e1 : (k1 != k2) = true := by simpa using t1
    case' pos =>
      subst t1
      cases ws
      case' true =>
        by_cases t3 : n1 = n2
        case' neg => have e1 : (n1 != n2) = true := by simpa using t3
        case' pos =>
          subst t3
          by_cases t4 : m1 = m2
          case' neg => have e1 : (m1 != m2) = true := by simpa using t4
          case' pos =>
            subst t4
            by_cases t5 : x1 = x2
            case' neg => have e1 : (x1 != x2) = true := by simpa using t5
            case' pos =>
              subst t5
              cases b1 <;> cases b2 <;> cases q
              all_goals
                simp only [Bool.not_true, Bool.not_false] at e0
    all_goals
      go_wp2
      all_goals
        go_meet
        case rel => exact ⟨by rw [hS.out]; first | (simp; done) | (simp [*]; done), rfl⟩
  obtain ⟨rfl, rfl⟩ := hcut
  clear hb2 hc
  cases hS : (sameH hd hd' && decide (subs.length = subs'.length))
  · have HR2 := Lib.hid (show res = false by rw [HR.out, hS, Bool.false_and])
    clear HR IH HN HN' hS
    go_wp2
    go_ret
    exact ⟨by rw [HR2.out]; rfl, hx12⟩
  · have HR2 := Lib.hid (show res = sameL subs subs' by rw [HR.out, hS, Bool.true_and])
    have hll : subs.length = subs'.length := by
      rw [Bool.and_eq_true, decide_eq_true_eq] at hS
      exact hS.2
    have HLL := Lib.hid hll
    clear HR hS hll
    have hx22 : Ext w2 w2 := Ext.refl w2
    simp only [Bool.not_true]
    go_wp2
    go_loopw [58] (fun i wr => ∃ k : Nat, k ≤ subs.length ∧ i = .int .i64 k ∧ sameL (subs.take k) (subs'.take k) = true ∧ Ext w2 wr) (fun i _ => subs.length - (intOf i).toNat)
    case atStart => exact ⟨0, Nat.zero_le _, rfl, by rw [List.take_zero, sameL], hx22⟩
    case round =>
      clear hx22
      obtain ⟨k, hk, rfl, hfl, hx⟩ := hrel
      have HL := Lib.hid hfl
      clear hfl
      replace c5 := hx.cell c5
      replace d5 := hx.cell d5
      by_cases hlt : k < subs.length
      · have hlt' : k < subs'.length := HLL.out ▸ hlt
        obtain ⟨g0, o0, sv, rfl, hat, hok⟩ := HN.out.get k hlt
        obtain ⟨g1, o1, sv', rfl, hat', hok'⟩ := HN'.out.get k hlt'
        have hxw := hx12.trans hx
        replace hat := (hat.ext hxw).drew
        replace hat' := (hat'.ext hxw).drew
        have HST := Lib.hid (sameL_step hlt hlt' HL.out)
        have HEN := Lib.hid (fun h => sameL_stop hlt hlt' h)
        have IHk := Lib.hid (IH.out subs[k] (List.getElem_mem hlt) sv subs'[k] sv' wr.drew (NdOk.ext hxw.drewr _ _ hok) (NdOk.ext hxw.drewr _ _ hok'))
        clear IH HN HN' HL hok hok'
        generalize sameN subs[k] subs'[k] = pk at *
        generalize subs[k] = nk at *
        generalize subs'[k] = nk' at *
        have t1 : (k : Int) < (subs.length : Int) := by omega
        have t2 : (k : Int) < (subs'.length : Int) := by omega
        go_upto_region 6 with fail
        refine wp_region_still_tail 10 (by kernel_rfl) (by kernel_rfl) ?_
        simp only [List.take_succ_cons, List.take_zero, List.drop_succ_cons, List.drop_zero]
        repeat still_step
        refine wpStill_loadNd _ rfl rfl g0 (o0 + k * 10) _ sv rfl hat ?_
        repeat still_step
        refine wpStill_loadNd _ rfl rfl g1 (o1 + k * 10) _ sv' rfl hat' ?_
        repeat still_step
        refine wpStill_nil ?_
        change wpList _ _ _ _ _ wr.drew
        clear hat hat'
        cases pk
        all_goals
          go_wp2_with (go_at_call 35; refine IHk.out.mono ?_; rintro e w6 ⟨rfl, hx6⟩)
        · go_ret
          exact ⟨by rw [HR2.out, HEN.out trivial]; rfl, hxw.drewr.trans hx6⟩
        · go_roundw
          case rel => exact ⟨k + 1, by omega, by go_num, HST.out, hx.drewr.trans hx6⟩
          case measure => simp [intOf]; omega
      · have hkl : subs.take k = subs := List.take_of_length_le (by omega)
        have hkl' : subs'.take k = subs' := List.take_of_length_le (by have := HLL.out; omega)
        rw [hkl, hkl'] at HL
        have t1 : ¬ (k : Int) < (subs.length : Int) := by omega
        clear IH HN HN' hkl hkl'
        go_wp2
        go_ret
        exact ⟨by rw [HR2.out, HL.out]; rfl, hx12.trans hx⟩

set_option maxRecDepth 100000 in
set_option maxHeartbeats 8000000 in
theorem sameR_any : ∀ (a : Nd) (sva : Value) (b : Nd) (svb : Value) (w : World), NdOk w a sva → NdOk w b svb → smallN a →
    Calls Tryd.prog 58 #[nodeV a.h sva, nodeV b.h svb] w fun r w' => r = .returned (.bool (sameN a b)) ∧ Ext w w' := by
  refine Nd.ind fun hd subs ih sva b svb w hn hn' hsm => ?_
  obtain ⟨hd', subs'⟩ := b
  obtain ⟨A, c, rfl⟩ := hn.shape
  obtain ⟨A', c', rfl⟩ := hn'.shape
  obtain ⟨hlen, hsm⟩ := hsm
  have IH := Lib.hid (fun n hm sv b svb w hn hn' => ih n hm sv b svb w hn hn' (smallL_mem hsm n hm))
  have HN := Lib.hid hn
  have HN' := Lib.hid hn'
  have HR := Lib.hid (by rw [sameN] : sameN (.mk hd subs) (.mk hd' subs') = (sameH hd hd' && decide (subs.length = subs'.length) && sameL subs subs'))
  clear ih hsm hn hn'
  generalize sameN (.mk hd subs) (.mk hd' subs') = res at *
  simp only [Nd.h, Nd.subs] at *
  go_enter Tryd.func58, Tryd.ntmps58
  go_upto_region 1 with (first
    | (refine wpl_boxNd rfl _ rfl hd _ rfl ?_; intro x w1 hb hx1 ex sx)
    | (refine wpl_boxNd rfl _ rfl hd' _ rfl ?_; intro y w2 hc hx2 ey sy))
  have hb2 := hb.ext hx2
  have hx12 := hx1.trans hx2
  clear hb hx1 hx2 ex sx ey sy
  have c5 : w2.cell? ⟨x, 5, none⟩ = some (.slice A subs.length c) := hb2.cell 5
  have d5 : w2.cell? ⟨y, 5, none⟩ = some (.slice A' subs'.length c') := hc.cell 5
  go_cut [55] (fun v wx => v = .bool (!(sameH hd hd' && decide (subs.length = subs'.length))) ∧ w2 = wx)
  case first =>
    have c0 : w2.cell? ⟨x, 0, none⟩ = some (.int .i64 hd.kind) := hb2.cell 0
    have c1 : w2.cell? ⟨x, 1, none⟩ = some (.int .u64 (wd hd.set 0 : Int)) := hb2.cell 1
    have c2 : w2.cell? ⟨x, 2, none⟩ = some (.int .u64 (wd hd.set 1 : Int)) := hb2.cell 2
    have c3 : w2.cell? ⟨x, 3, none⟩ = some (.int .u64 (wd hd.set 2 : Int)) := hb2.cell 3
    have c4 : w2.cell? ⟨x, 4, none⟩ = some (.int .u64 (wd hd.set 3 : Int)) := hb2.cell 4
    have c6 : w2.cell? ⟨x, 6, none⟩ = some (.int .i64 hd.num) := hb2.cell 6
    have c7 : w2.cell? ⟨x, 7, none⟩ = some (.int .i64 hd.min) := hb2.cell 7
    have c8 : w2.cell? ⟨x, 8, none⟩ = some (.int .i64 hd.max) := hb2.cell 8
    have c9 : w2.cell? ⟨x, 9, none⟩ = some (.bool hd.bare) := hb2.cell 9
    have d0 : w2.cell? ⟨y, 0, none⟩ = some (.int .i64 hd'.kind) := hc.cell 0
    have d1 : w2.cell? ⟨y, 1, none⟩ = some (.int .u64 (wd hd'.set 0 : Int)) := hc.cell 1
    have d2 : w2.cell? ⟨y, 2, none⟩ = some (.int .u64 (wd hd'.set 1 : Int)) := hc.cell 2
    have d3 : w2.cell? ⟨y, 3, none⟩ = some (.int .u64 (wd hd'.set 2 : Int)) := hc.cell 3
    have d4 : w2.cell? ⟨y, 4, none⟩ = some (.int .u64 (wd hd'.set 3 : Int)) := hc.cell 4
    have d6 : w2.cell? ⟨y, 6, none⟩ = some (.int .i64 hd'.num) := hc.cell 6
    have d7 : w2.cell? ⟨y, 7, none⟩ = some (.int .i64 hd'.min) := hc.cell 7
    have d8 : w2.cell? ⟨y, 8, none⟩ = some (.int .i64 hd'.max) := hc.cell 8
    have d9 : w2.cell? ⟨y, 9, none⟩ = some (.bool hd'.bare) := hc.cell 9
    have hne := neq_set hd.set hd'.set
    have hS := Lib.hid (show sameH hd hd' = (decide (hd.kind = hd'.kind) && wordsB hd.set hd'.set && decide (hd.num = hd'.num) && decide (hd.min = hd'.min) && decide (hd.max = hd'.max) && (hd.bare == hd'.bare)) from rfl)
    clear HR IH HN HN' hb2 hc hx12
    generalize sameH hd hd' = sh at *
    generalize hd.kind = k1 at *
    generalize hd'.kind = k2 at *
    generalize hd.num = n1 at *
    generalize hd'.num = n2 at *
    generalize hd.min = m1 at *
    generalize hd'.min = m2 at *
    generalize hd.max = x1 at *
    generalize hd'.max = x2 at *
    generalize hd.bare = b1 at *
    generalize hd'.bare = b2 at *
    generalize wordsB hd.set hd'.set = ws at *
    have e0 : ((subs.length : Int) != (subs'.length : Int)) = !decide (subs.length = subs'.length) := by
      by_cases h : subs.length = subs'.length
      · simp [h]
      · have h2 : ¬ ((subs.length : Int) = (subs'.length : Int)) := by omega
        simp [h, h2]
    generalize decide (subs.length = subs'.length) = q at *
    by_cases t1 : k1 = k2
    case' neg => have e1 : (k1 != k2) = true := by simpa using t1
    case' pos =>
      subst t1
      cases ws
      case' true =>
        by_cases t3 : n1 = n2
        case' neg => have e1 : (n1 != n2) = true := by simpa using t3
        case' pos =>
          subst t3
          by_cases t4 : m1 = m2
          case' neg => have e1 : (m1 != m2) = true := by simpa using t4
          case' pos =>
            subst t4
            by_cases t5 : x1 = x2
            case' neg => have e1 : (x1 != x2) = true := by simpa using t5
            case' pos =>
              subst t5
              cases b1 <;> cases b2 <;> cases q
              all_goals
                simp only [Bool.not_true, Bool.not_false] at e0
    all_goals
      go_wp2
      all_goals
        go_meet
        case rel => exact ⟨by rw [hS.out]; first | (simp; done) | (simp [*]; done), rfl⟩
  obtain ⟨rfl, rfl⟩ := hcut
  clear hb2 hc
  cases hS : (sameH hd hd' && decide (subs.length = subs'.length))
  · have HR2 := Lib.hid (show res = false by rw [HR.out, hS, Bool.false_and])
    clear HR IH HN HN' hS
    go_wp2
    go_ret
    exact ⟨by rw [HR2.out]; rfl, hx12⟩
  · have HR2 := Lib.hid (show res = sameL subs subs' by rw [HR.out, hS, Bool.true_and])
    have hll : subs.length = subs'.length := by
      rw [Bool.and_eq_true, decide_eq_true_eq] at hS
      exact hS.2
    have HLL := Lib.hid hll
    clear HR hS hll
    have hx22 : Ext w2 w2 := Ext.refl w2
    simp only [Bool.not_true]
    go_wp2
    go_loopw [5] (fun i wr => ∃ k : Nat, k ≤ subs.length ∧ i = .int .i64 k ∧ sameL (subs.take k) (subs'.take k) = true ∧ Ext w2 wr) (fun i _ => subs.length - (intOf i).toNat)
    case atStart => exact ⟨0, Nat.zero_le _, rfl, by rw [List.take_zero, sameL], hx22⟩
    case round =>
      clear hx22
      obtain ⟨k, hk, rfl, hfl, hx⟩ := hrel
      have HL := Lib.hid hfl
      clear hfl
      replace c5 := hx.cell c5
      replace d5 := hx.cell d5
      by_cases hlt : k < subs.length
      · have hlt' : k < subs'.length := HLL.out ▸ hlt
        obtain ⟨g0, o0, sv, rfl, hat, hok⟩ := HN.out.get k hlt
        obtain ⟨g1, o1, sv', rfl, hat', hok'⟩ := HN'.out.get k hlt'
        have hxw := hx12.trans hx
        replace hat := (hat.ext hxw).drew
        replace hat' := (hat'.ext hxw).drew
        have HST := Lib.hid (sameL_step hlt hlt' HL.out)
        have HEN := Lib.hid (fun h => sameL_stop hlt hlt' h)
        have IHk := Lib.hid (IH.out subs[k] (List.getElem_mem hlt) sv subs'[k] sv' wr.drew (NdOk.ext hxw.drewr _ _ hok) (NdOk.ext hxw.drewr _ _ hok'))
        clear IH HN HN' HL hok hok'
        generalize sameN subs[k] subs'[k] = pk at *
        generalize subs[k] = nk at *
        generalize subs'[k] = nk' at *
        have t1 : (k : Int) < (subs.length : Int) := by omega
        have t2 : (k : Int) < (subs'.length : Int) := by omega
        go_upto_region 6 with fail
        refine wp_region_still_tail 10 (by kernel_rfl) (by kernel_rfl) ?_
        simp only [List.take_succ_cons, List.take_zero, List.drop_succ_cons, List.drop_zero]
        repeat still_step
        refine wpStill_loadNd _ rfl rfl g0 (o0 + k * 10) _ sv rfl hat ?_
        repeat still_step
        refine wpStill_loadNd _ rfl rfl g1 (o1 + k * 10) _ sv' rfl hat' ?_
        repeat still_step
        refine wpStill_nil ?_
        change wpList _ _ _ _ _ wr.drew
        clear hat hat'
        cases pk
        all_goals
          go_wp2_with (go_at_call 58; refine IHk.out.mono ?_; rintro e w6 ⟨rfl, hx6⟩)
        · go_ret
          exact ⟨by rw [HR2.out, HEN.out trivial]; rfl, hxw.drewr.trans hx6⟩
        · go_roundw
          case rel => exact ⟨k + 1, by omega, by go_num, HST.out, hx.drewr.trans hx6⟩
          case measure => simp [intOf]; omega
      · have hkl : subs.take k = subs := List.take_of_length_le (by omega)
        have hkl' : subs'.take k = subs' := List.take_of_length_le (by have := HLL.out; omega)
        rw [hkl, hkl'] at HL
        have t1 : ¬ (k : Int) < (subs.length : Int) := by omega
        clear IH HN HN' hkl hkl'
        go_wp2
        go_ret
        exact ⟨by rw [HR2.out, HL.out]; rfl, hx12.trans hx⟩

end Go.Proofs.YthddlhpndaffjaaDoor

namespace Go.Proofs.YthddlhpndaffjaaDoor

theorem wordsB_iff {p q : Nat → Bool} : wordsB p q = true ↔ ∀ i, i < 4 → wd p i = wd q i := by
  unfold wordsB
  rw [decide_eq_true_eq]
  constructor
  · rintro ⟨h0, h1, h2, h3⟩ i hi
    rcases (show i = 0 ∨ i = 1 ∨ i = 2 ∨ i = 3 from by omega) with rfl | rfl | rfl | rfl <;> omega
  · intro h
    rw [h 0 (by omega), h 1 (by omega), h 2 (by omega), h 3 (by omega)]
    exact ⟨rfl, rfl, rfl, rfl⟩
theorem sameH_iff {h h' : Hd} : sameH h h' = true ↔ h.kind = h'.kind ∧ (∀ i, i < 4 → wd h.set i = wd h'.set i) ∧ h.num = h'.num ∧ h.min = h'.min ∧ h.max = h'.max ∧ h.bare = h'.bare := by
  unfold sameH
  simp only [Bool.and_eq_true, decide_eq_true_eq, beq_iff_eq, wordsB_iff]
  constructor
  · rintro ⟨⟨⟨⟨⟨a, b⟩, c⟩, d⟩, e⟩, f⟩
    exact ⟨a, b, c, d, e, f⟩
  · rintro ⟨a, b, c, d, e, f⟩
    exact ⟨⟨⟨⟨⟨a, b⟩, c⟩, d⟩, e⟩, f⟩
theorem sameN_iff {h h' : Hd} {s s' : List Nd} : sameN (.mk h s) (.mk h' s') = true ↔ sameH h h' = true ∧ s.length = s'.length ∧ sameL s s' = true := by
  rw [sameN, Bool.and_eq_true, Bool.and_eq_true, decide_eq_true_eq]
  exact ⟨fun h => ⟨h.1.1, h.1.2, h.2⟩, fun h => ⟨⟨h.1, h.2.1⟩, h.2.2⟩⟩
mutual
theorem sameN_symm : ∀ (a b : Nd), sameN a b = true → sameN b a = true
  | .mk h s, .mk h' s', hs => by
    obtain ⟨h1, h2, h3⟩ := sameN_iff.1 hs
    obtain ⟨a, b, c, d, e, f⟩ := sameH_iff.1 h1
    exact sameN_iff.2 ⟨sameH_iff.2 ⟨a.symm, fun i hi => (b i hi).symm, c.symm, d.symm, e.symm, f.symm⟩, h2.symm, sameL_symm s s' h2 h3⟩
theorem sameL_symm : ∀ (a b : List Nd), a.length = b.length → sameL a b = true → sameL b a = true
  | [], [], _, _ => rfl
  | x :: a, y :: b, hl, hs => by
    rw [sameL, Bool.and_eq_true] at hs ⊢
    exact ⟨sameN_symm x y hs.1, sameL_symm a b (by simpa using hl) hs.2⟩
  | [], _ :: _, h, _ => by cases h
  | _ :: _, [], h, _ => by cases h
end
mutual
theorem sameN_trans : ∀ (a b c : Nd), sameN a b = true → sameN b c = true → sameN a c = true
  | .mk h s, .mk h' s', .mk h2 s2, hs, ht => by
    obtain ⟨h1, l1, k1⟩ := sameN_iff.1 hs
    obtain ⟨h3, l3, k3⟩ := sameN_iff.1 ht
    obtain ⟨a, b, c, d, e, f⟩ := sameH_iff.1 h1
    obtain ⟨a', b', c', d', e', f'⟩ := sameH_iff.1 h3
    exact sameN_iff.2 ⟨sameH_iff.2 ⟨a.trans a', fun i hi => (b i hi).trans (b' i hi), c.trans c', d.trans d', e.trans e', f.trans f'⟩, l1.trans l3, sameL_trans s s' s2 l1 l3 k1 k3⟩
theorem sameL_trans : ∀ (a b c : List Nd), a.length = b.length → b.length = c.length → sameL a b = true → sameL b c = true → sameL a c = true
  | [], [], [], _, _, _, _ => rfl
  | x :: a, y :: b, z :: c, hl, hm, hs, ht => by
    rw [sameL, Bool.and_eq_true] at hs ht ⊢
    exact ⟨sameN_trans x y z hs.1 ht.1, sameL_trans a b c (by simpa using hl) (by simpa using hm) hs.2 ht.2⟩
  | [], _ :: _, _, h, _, _, _ => by cases h
  | _ :: _, [], _, h, _, _, _ => by cases h
  | [], [], _ :: _, _, h, _, _ => by cases h
  | _ :: _, _ :: _, [], _, h, _, _ => by cases h
end
theorem same_formed {h h' : Hd} (l : Nat) (hs : sameH h h' = true) : formedB h l = formedB h' l := by
  obtain ⟨a, b, c, d, e, f⟩ := sameH_iff.1 hs
  have hz : zeroS h.set = zeroS h'.set := by unfold zeroS; rw [b 0 (by omega), b 1 (by omega), b 2 (by omega), b 3 (by omega)]
  unfold formedB plainB
  rw [a, c, d, e, f, hz]
theorem same_deep {h h' : Hd} (l : Nat) (hs : sameH h h' = true) : deepB h l = deepB h' l := by
  obtain ⟨a, b, c, d, e, f⟩ := sameH_iff.1 hs
  unfold deepB
  rw [a, d, e]
theorem same_rounds {h h' : Hd} (n : Int) (hs : sameH h h' = true) : roundsZ h n = roundsZ h' n := by
  obtain ⟨a, b, c, d, e, f⟩ := sameH_iff.1 hs
  unfold roundsZ
  rw [d, e]
theorem same_setB {p q : Nat → Bool} (h : ∀ i, i < 4 → wd p i = wd q i) : setB p = setB q := by
  have hb : ∀ b, b < 256 → p b = q b := fun b hb => by
    have := congrArg (fun x => x.testBit (b % 64)) (h (b / 64) (by omega))
    simp only [wd_bit _ _ _ (show b % 64 < 64 by omega), show 64 * (b / 64) + b % 64 = b by omega] at this
    exact this
  unfold setB
  apply List.map_congr_left
  intro j hj
  rw [List.mem_range] at hj
  congr 1
  exact ofBits_congr fun k hk => hb _ (by omega)
theorem same_headB {h h' : Hd} (l : Nat) (hs : sameH h h' = true) : headB h l = headB h' l := by
  obtain ⟨a, b, c, d, e, f⟩ := sameH_iff.1 hs
  unfold headB
  rw [a, c, d, e, f, same_setB b]
mutual
theorem same_form : ∀ (a b : Nd), sameN a b = true → formB a = formB b ∧ depthN a = depthN b ∧ sizeN a = sizeN b ∧ imgN a = imgN b
  | .mk h s, .mk h' s', hs => by
    obtain ⟨h1, h2, h3⟩ := sameN_iff.1 hs
    obtain ⟨f1, f2, f3, f4⟩ := same_formL s s' h2 h3
    obtain ⟨a, b, c, d, e, f⟩ := sameH_iff.1 h1
    refine ⟨?_, ?_, ?_, ?_⟩
    · rw [formB, formB, same_formed _ h1, h2, f1]
    · rw [depthN, depthN, same_deep _ h1, h2, f2]
    · rw [sizeN, sizeN, f3, a, e, same_rounds _ h1]
    · rw [imgN, imgN, a, same_headB _ h1, h2, f4]
theorem same_formL : ∀ (a b : List Nd), a.length = b.length → sameL a b = true → formL a = formL b ∧ (∀ k, depthA k a = depthA k b) ∧ (∀ k, sizeA k a = sizeA k b) ∧ imgL a = imgL b
  | [], [], _, _ => ⟨rfl, fun _ => rfl, fun _ => rfl, rfl⟩
  | x :: a, y :: b, hl, hs => by
    rw [sameL, Bool.and_eq_true] at hs
    obtain ⟨e1, e2, e3, e4⟩ := same_form x y hs.1
    obtain ⟨f1, f2, f3, f4⟩ := same_formL a b (by simpa using hl) hs.2
    refine ⟨by rw [formL, formL, e1, f1], fun k => by rw [depthA, depthA, e2, f2], fun k => by rw [sizeA, sizeA, e3, f3], by rw [imgL, imgL, e4, f4]⟩
  | [], _ :: _, h, _ => by cases h
  | _ :: _, [], h, _ => by cases h
end
theorem same_chk {a b : Nd} (h : sameN a b = true) : chkN a = chkN b := by
  obtain ⟨h1, h2, h3, _⟩ := same_form a b h
  unfold chkN
  rw [h1, h2, h3]
mutual
theorem height_depth : ∀ n : Nd, (heightN n : Int) ≤ depthN n
  | .mk h s => by
    have := (height_depthL s 0 (by omega)).1
    rw [heightN, depthN]
    split <;> omega
theorem height_depthL : ∀ (l : List Nd) (k : Int), 0 ≤ k → (heightL l : Int) ≤ depthA k l ∧ k ≤ depthA k l
  | [], k, hk => by rw [heightL, depthA]; exact ⟨by simpa using hk, Int.le_refl _⟩
  | n :: r, k, hk => by
    have h1 := height_depth n
    obtain ⟨h2, h3⟩ := height_depthL r (max k (depthN n)) (by omega)
    rw [heightL, depthA]
    exact ⟨by omega, by omega⟩
end
theorem magic_len : magic.length = 5 := rfl
theorem chk_height {a : Nd} (h : chkN a = 0) : heightN a ≤ 200 := by
  have h1 := height_depth a
  have h2 := (chk_ok h).2.1
  omega
theorem can_chk {a : Nd} (h : chkN a = 0) : chkN (canN a) = 0 := by rw [← same_chk (can_same a (chk_ok h).1)]; exact h
theorem decR_long {a : Nd} (more : List UInt8) (hc : chkN a = 0) (hs : shortN a) : decR (magic ++ imgN a ++ more) = if more = [] then some (canN a) else none := by
  have e5 : (magic ++ imgN a ++ more).drop 5 = imgN a ++ more := by rw [List.append_assoc]; exact List.drop_left' magic_len
  have t5 : (magic ++ imgN a ++ more).take 5 = magic := by rw [List.append_assoc]; exact List.take_left' magic_len
  have hn := nodeP_img 200 a more (chk_ok hc).1 hs (chk_height hc)
  unfold decR
  rw [if_pos ⟨by simp [magic], t5⟩, e5, hn]
  by_cases hm : more = []
  · subst hm
    rw [if_pos ⟨rfl, can_chk hc⟩, if_pos rfl]
  · rw [if_neg (fun h => hm (congrArg Prod.fst h.1)), if_neg hm]
theorem decR_img {a : Nd} (hc : chkN a = 0) (hs : shortN a) : decR (magic ++ imgN a) = some (canN a) := by
  have := decR_long [] hc hs
  rwa [List.append_nil, if_pos rfl] at this
theorem decR_short {a : Nd} (k : Nat) (hc : chkN a = 0) (hs : shortN a) (hk : k < (magic ++ imgN a).length) : decR ((magic ++ imgN a).take k) = none := by
  cases hd : decR ((magic ++ imgN a).take k) with
  | none => rfl
  | some n =>
    exfalso
    obtain ⟨h1, h2, h3, _⟩ := decR_some hd
    have h4 := decR_long ((magic ++ imgN a).drop k) h2 h3
    rw [← h1, List.take_append_drop, decR_img hc hs] at h4
    by_cases hm : (magic ++ imgN a).drop k = []
    · have := congrArg List.length hm
      rw [List.length_drop, List.length_nil] at this
      omega
    · rw [if_neg hm] at h4
      cases h4
theorem img_same {a b : Nd} (ha : chkN a = 0) (hb : chkN b = 0) (sa : shortN a) (sb : shortN b) : decide (magic ++ imgN a = magic ++ imgN b) = sameN a b := by
  cases hs : sameN a b
  · rw [decide_eq_false_iff_not]
    intro e
    have h1 := decR_img ha sa
    rw [e, decR_img hb sb, Option.some.injEq] at h1
    have h2 := can_same a (chk_ok ha).1
    have h3 := sameN_symm _ _ (can_same b (chk_ok hb).1)
    rw [h1] at h3
    rw [sameN_trans _ _ _ h2 h3] at hs
    cases hs
  · rw [decide_eq_true_eq, (same_form a b hs).2.2.2]

end Go.Proofs.YthddlhpndaffjaaDoor

namespace Go.Proofs.YthddlhpndaffjaaDoor
open Go Go.RowKit

theorem growBy_le (n : Nat) : ∀ k c, Builtin.growBy n k c ≤ max c (n + n / 4 + 192)
  | 0, c => by unfold Builtin.growBy; omega
  | k + 1, c => by
    unfold Builtin.growBy
    split
    · omega
    · have := growBy_le n k (c + (c + 768) / 4)
      omega
theorem next_big {need old : Nat} (h : old < need) (hn : need ≤ 140737488355328 + 1000000) : Builtin.nextslicecap need old ≤ 281474976710656 := by
  unfold Builtin.nextslicecap
  split
  · omega
  split
  · omega
  · have := growBy_le need 4 old
    omega

set_option maxRecDepth 10000
section
variable {ops : Array Oper} {rest : List Oper} {o : Oper} {a : Act} {w : World} {Q : Exit → Act → World → Prop}
theorem run_appBig (ty : TypeId) (B : Nat) (v : Value) (l m : List UInt8) (ad : Addr) (c : Nat) (hL : OwnB w B v l) (h0 : l ≠ []) (hM : RdA w ad m) (hB : B ≤ w.heap.size) (hl : l.length ≤ 1000000) (hm : m.length ≤ 140737488355328) :
    ∃ v' w', (Builtin.append_ #[43, 43] ty #[v, .slice (some ad) m.length c]).run Tryd.prog w = .ok v' w' ∧ OwnB w' B v' (l ++ m) ∧ w.grownBy w' v.ownBlock ∧ (v'.ownBlock = v.ownBlock ∨ v'.ownBlock = some w.heap.size) := by
  obtain ⟨i, hi, hz, hs, hb⟩ := info_parts info_u8
  have hnews : ∀ j u, (bvs m)[j]? = some u → w.cell? (ad.add j) = some u := fun j u hu => hM.cells j u hu
  have hnl : (bvs m).length = m.length * i.size := by rw [bvs_len, hs, Nat.mul_one]
  have hown := hL.2
  have hlen : (bvs l ++ bvs m).length = l.length + m.length := by rw [List.length_append, bvs_len, bvs_len]
  have h63 : l.length + m.length ≤ maxLen := by simp only [maxLen]; omega
  rcases hown with ⟨rfl, h1⟩ | ⟨g, cap, cur, rfl, hbg, hg, hnc, hcm, hcs, htake⟩
  · rw [bvs_len] at h1
    exact absurd (List.eq_nil_of_length_eq_zero h1) h0
  · simp only [bvs_len, Nat.mul_one] at hL hnc hcs htake ⊢
    by_cases hroom : l.length + m.length ≤ cap
    · have hfit : l.length * i.size + (bvs m).length ≤ cur.size := by rw [hs, bvs_len, hcs, Nat.mul_one]; exact hroom
      have hr := run_append_room (P := Tryd.prog) w 43 ty 5 i Tryd.underlying43 hi g l.length cap cur hg ad m.length c (bvs m) hnl hnews (bvs_one m) hroom hfit
      rw [hs] at hr
      simp only [Nat.mul_one, bvs_len] at hr
      refine ⟨_, _, hr, ?_, ⟨rfl, rfl, rfl, by simp, fun k _ hk => setRow_other w g k _ (fun e => hk (by simp [Value.ownBlock, e]))⟩, Or.inl rfl⟩
      unfold OwnB Own1
      rw [bvs_app]
      rw [hlen]
      refine ⟨by rw [hlen, Nat.mul_one], .inr ⟨g, cap, _, rfl, hbg, setRow_heap w g cur _ _ _ hg, hroom, hcm, ?_, ?_⟩⟩
      · simp only [List.size_toArray, List.length_append, List.length_take, List.length_drop, Array.length_toList, bvs_len]
        omega
      · rw [htake, Nat.mul_one, ← hlen]
        exact List.take_left
    · have holds : ∀ j u, (bvs l)[j]? = some u → w.cell? ((⟨g, 0, none⟩ : Addr).add j) = some u := fun j u hu => by
        have ea : (⟨g, 0, none⟩ : Addr).add j = ⟨g, j, none⟩ := by unfold Addr.add; split <;> simp_all
        rw [ea]
        exact (Own1.cells hL).2 j u hu
      have hr := run_append_grow (P := Tryd.prog) w 43 ty 5 i (.int .u8 0) Tryd.underlying43 hi hz ⟨g, 0, none⟩ l.length cap (bvs l) (by rw [bvs_len, hs, Nat.mul_one]) holds ad m.length c (bvs m) hnl hnews (by omega) (by omega) (by rw [hb, Nat.mul_one]; exact next_big (by omega) (by omega))
      refine ⟨_, _, hr, ?_, ⟨rfl, rfl, rfl, Below.size (((Ext.refl w).drew).alloc _), fun k hk _ => Below.block (((Ext.refl w).drew).alloc _) k hk⟩, Or.inr rfl⟩
      have hge := grownCap_ge w (l.length + m.length) cap 5
      have hcm2 : grownCap w (l.length + m.length) cap 5 ≤ maxLen := grownCap_le_maxLen w (l.length + m.length) cap 5 h63
      unfold OwnB Own1
      rw [bvs_app]
      rw [hlen]
      refine ⟨by rw [hlen, Nat.mul_one], .inr ⟨w.heap.size, _, _, rfl, hB, heap_alloc_new w.drew _, hge, hcm2, ?_, ?_⟩⟩
      · have hz1 : (Value.int IntKind.u8 0).cells.size = 1 := rfl
        simp only [Array.size_append, List.size_toArray, size_zeroCells, hz1, bvs_len]
        omega
      · simp only [Array.toList_append, List.append_assoc, Nat.mul_one]
        rw [← List.append_assoc, ← hlen]
        exact List.take_left
theorem wpl_appBig (hgd : o.guard = none) (s x : Operand) (ho : o.op = .call { callee := .builtin .append, args := #[s, x], argTypes := #[43, 43] })
    (B : Nat) (v v2 : Value) (l m : List UInt8) (hs : a.eval s = v) (hx : a.eval x = v2) (hL : OwnB w B v l) (h0 : l ≠ []) (hM : BytV w v2 m) (hB : B ≤ w.heap.size) (hl : l.length ≤ 1000000) (hm : m.length ≤ 140737488355328)
    (hK : ∀ v' w1, OwnB w1 B v' (l ++ m) → Grew w w1 v v' → wpList Tryd.prog ops Q rest (a.put o.dst v') w1) : wpList Tryd.prog ops Q (o :: rest) a w := by
  rcases hM with ⟨rfl, rfl⟩ | ⟨ad, c, rfl, _, hrd⟩
  · exact wpl_appBs hgd s x ho B w.heap.size v (.slice none 0 0) l [] hs hx hL (Own1.nil _ _ _) hB (by omega) (by simp) hK
  · refine wpList_plain hgd fun K hK' => ?_
    obtain ⟨v', w', hr, h2, h3, h4⟩ := run_appBig (w := w) o.type B v l m ad c hL h0 hrd hB hl hm
    unfold Oper.wp execOp
    simp only [ho, resolve, invoke, builtin, Sem.run_bind, Sem.run_pure, Result.andThen_ok, List.map_toArray, List.map_cons, List.map_nil, hs, hx, hr]
    refine hK' _ _ (hK v' w' h2 ⟨Keeps.of_grown h3, fun i hi => ?_⟩)
    rcases h4 with h4 | h4
    · rw [h4] at hi; exact .inl hi
    · rw [h4] at hi; injection hi with hi; exact .inr (by omega)
end

end Go.Proofs.YthddlhpndaffjaaDoor

namespace Go.Proofs.YthddlhpndaffjaaDoor
open Go.RowKit Go.ChangeShapes Go.WideShapes Go.Deep
set_option maxRecDepth 100000
theorem bytesOf_u8 : Tryd.prog.bytesOf 5 = 1 := by kernel_rfl
theorem byt_small {H : Type} {ts : List TypeId} {ds : List (DataW H)} (h : (DataW.weightsEach Tryd.prog ts ds).all (· ≤ reachBytes) = true) {j : Nat} {d : DataW H} (ht : ts[j]? = some 43) (hd : ds[j]? = some d) {b : List UInt8}
    (hb : b = [] ∨ ∃ e' sp', d = .slice e' sp' ∧ e'.length = b.length) : b.length ≤ 140737488355328 := by
  rcases hb with rfl | ⟨e', sp', rfl, hl⟩
  · exact Nat.zero_le _
  · have h1 : (e'.length + sp'.length) * Tryd.prog.bytesOf 5 ≤ reachBytes := by
      refine of_decide_eq_true (List.all_eq_true.1 h _ (DataW.weights_mem_each ht hd _ ?_))
      simp [DataW.weights, Tryd.underlying43]
    rw [bytesOf_u8, Nat.mul_one] at h1
    have h2 : reachBytes = 140737488351232 := by decide
    omega

end Go.Proofs.YthddlhpndaffjaaDoor

namespace Go.Proofs.YthddlhpndaffjaaDoor
open Go Go.RowKit

mutual
theorem nodes_can : ∀ n, nodesN (canN n) = nodesN n
  | .mk h s => by rw [canN, nodesN, nodesN, nodesL_can s]
theorem nodesL_can : ∀ l, nodesL (canL l) = nodesL l
  | [] => by rw [canL]
  | n :: r => by rw [canL, nodesL, nodesL, nodes_can n, nodesL_can r]
end
theorem OwnB.byt {w : World} {B : Nat} {v : Value} {l : List UInt8} (h : OwnB w B v l) : BytV w v l := by
  rcases Own1.slice h with ⟨h1, h2⟩ | ⟨g, cap, cur, h1, _, _, h3, _⟩
  · exact .inl ⟨h1, List.eq_nil_of_map_eq_nil h2⟩
  · rw [bvs_len] at h1 h3
    subst h1
    exact .inr ⟨⟨g, 0, none⟩, cap, rfl, h3, RdA.of_cells fun j u hu => by
      have ea : (⟨g, 0, none⟩ : Addr).add j = ⟨g, j, none⟩ := by unfold Addr.add; split <;> simp_all
      rw [ea]
      exact (Own1.cells h).2 j u hu⟩
theorem BytV.take {w : World} {a : Addr} {c : Nat} {l : List UInt8} (h : RdA w a l) (k : Nat) (hk : k ≤ l.length) (hc : l.length ≤ c) : BytV w (.slice (some a) k c) (l.take k) := by
  have e : (l.take k).length = k := by simp; omega
  exact .inr ⟨a, c, by rw [e], by rw [e]; omega, RdA.take (r := l.drop k) (by rw [List.take_append_drop]; exact h)⟩
theorem pick_cut (a : Int) (n : Nat) (h : 0 < n) (hn : n ≤ 1000000) : ∃ r : Nat, IntKind.i64.wrap ((IntKind.u64.wrap a).tmod (IntKind.u64.wrap (n : Int))) = (r : Int) ∧ r < n := by
  have h0 : 0 ≤ IntKind.u64.wrap a := by rw [IntKind.wrap_u64]; omega
  have h1 : IntKind.u64.wrap (n : Int) = (n : Int) := by rw [IntKind.wrap_u64]; omega
  rw [h1, Int.tmod_eq_emod_of_nonneg h0]
  have h2 : 0 ≤ IntKind.u64.wrap a % (n : Int) := Int.emod_nonneg _ (by omega)
  have h3 : IntKind.u64.wrap a % (n : Int) < (n : Int) := Int.emod_lt_of_pos _ (by omega)
  refine ⟨(IntKind.u64.wrap a % (n : Int)).toNat, ?_, by omega⟩
  rw [IntKind.wrap_i64]
  omega

set_option maxRecDepth 100000 in
set_option maxHeartbeats 8000000 in
theorem imageBack_walk (n0 n1 : Nd) (sv0 sv1 : Value) (cut : Int) (vm : Value) (more : List UInt8) (W : World) (A : Nat → Addr) (hn0 : NdOk W n0 sv0) (hn1 : NdOk W n1 sv1) (hM : BytV W vm more) (hml : more.length ≤ 140737488355328) (hE : ErrsAt W A) :
    Calls Tryd.prog 9 #[nodeV n0.h sv0, nodeV n1.h sv1, .int .i64 cut, vm] W fun r w' => r = .returned (.bool true) ∧ Ext W w' := by
  have HL := Lib.hid (fun w (hW : Ext W w) => ilives_any w A (hE.ext hW))
  have HF0 := Lib.hid (fun w (hW : Ext W w) => few_any n0 sv0 3000 w (NdOk.ext hW _ _ hn0) (by omega) (by omega))
  have HF1 := Lib.hid (fun w (hW : Ext W w) => few_any n1 sv1 3000 w (NdOk.ext hW _ _ hn1) (by omega) (by omega))
  by_cases hf0 : 0 ≤ leftN n0 3000
  · have hd0 : decide (0 ≤ leftN n0 3000) = true := by simpa using hf0
    rw [hd0] at HF0
    by_cases hf1 : 0 ≤ leftN n1 3000
    · have hd1 : decide (0 ≤ leftN n1 3000) = true := by simpa using hf1
      rw [hd1] at HF1
      have hsm0 := small_left n0 3000 (by omega) hf0
      have hnn0 := few_nodes n0 3000 hf0
      have hsh0 := short_nodes n0 (by omega)
      have hel0 := enc_len hsh0 hnn0
      have hil0 : chkN n0 = 0 → (imgN n0).length ≤ 10000000 := fun hc => by have := img_len n0 (chk_ok hc).1 hsh0; omega
      have HEN0 := Lib.hid (fun w (hW : Ext W w) => encode_any n0 sv0 w A 3000 (hn0.ext hW) (hE.ext hW).three (by omega) hf0 hsh0 hil0)
      have HCK0 := Lib.hid (fun w (hW : Ext W w) => check_any n0 sv0 w A 3000 (hn0.ext hW) (hE.ext hW).three (by omega) hf0)
      by_cases hc0 : chkN n0 = 0
      · have hXl : (magic ++ imgN n0).length ≤ 200000 := by have := hel0; unfold encR at this; rwa [if_pos hc0] at this
        have hX0 : 0 < (magic ++ imgN n0).length := by simp [magic]
        have hcc := can_chk hc0
        have hcf : 0 ≤ leftN (canN n0) 3000 := left_few (by rw [nodes_can]; exact hnn0)
        have hcs := small_left (canN n0) 3000 (by omega) hcf
        have hsame : sameN (canN n0) n0 = true := sameN_symm _ _ (can_same n0 (chk_ok hc0).1)
        replace HEN0 := Lib.hid (by exact (fun w hW => by
          have := HEN0.out w hW
          unfold RetE encR at this
          rw [hc0, if_pos rfl, errR, if_pos rfl] at this
          exact this : ∀ w, Ext W w → Calls Tryd.prog 27 #[nodeV n0.h sv0] w fun r w' => ∃ v, r = .returned (.tuple #[v, .nilIface]) ∧ OwnB w' w.heap.size v (magic ++ imgN n0) ∧ Ext w w'))
        have HD1 := Lib.hid (by exact (fun w v hW hB => (decode_any (magic ++ imgN n0) v w A 1000000 (hE.ext hW) hB (by decide) (dec_few (k := 200000) hXl (by decide))).mono (fun e w' h => by unfold RetD at h; rw [decR_img hc0 hsh0] at h; exact h) :
          ∀ w v, Ext W w → BytV w v (magic ++ imgN n0) → Calls Tryd.prog 29 #[v] w fun r w' => ∃ sv, r = .returned (.tuple #[nodeV (canN n0).h sv, .nilIface]) ∧ NdNew w.heap.size w' (canN n0) sv ∧ Ext w w'))
        have HD2 := Lib.hid (by exact (fun w v k hW hk hB => (decode_any ((magic ++ imgN n0).take k) v w A 1000000 (hE.ext hW) hB (by decide) (dec_few (k := 200000) (by rw [List.length_take]; omega) (by decide))).mono (fun e w' h => by unfold RetD at h; rw [decR_short k hc0 hsh0 hk] at h; exact h) :
          ∀ w v k, Ext W w → k < (magic ++ imgN n0).length → BytV w v ((magic ++ imgN n0).take k) → Calls Tryd.prog 29 #[v] w fun r w' => ∃ sv, r = .returned (.tuple #[nodeV (hdV 0) sv, errV (A 16)]) ∧ NdNew w.heap.size w' (.mk (hdV 0) []) sv ∧ Ext w w'))
        have HD3 := Lib.hid (by exact (fun w v hW hB => (decode_any (magic ++ imgN n0 ++ more) v w A 1000000 (hE.ext hW) hB (by decide) (fun n hn => by
            have e5 : (magic ++ imgN n0 ++ more).drop 5 = imgN n0 ++ more := by rw [List.append_assoc]; exact List.drop_left' magic_len
            rw [e5, nodeP_img 200 n0 more (chk_ok hc0).1 hsh0 (chk_height hc0), Prod.mk.injEq] at hn
            rw [← hn.1]
            exact left_few (by rw [nodes_can]; omega))).mono (fun e w' h => by
              unfold RetD at h
              rw [decR_long more hc0 hsh0] at h
              by_cases hm : more = []
              · rw [if_pos hm] at h
                obtain ⟨sv, h1, h2, h3⟩ := h
                exact ⟨canN n0, sv, by rw [if_pos hm]; exact h1, h2.ok.sl, h3⟩
              · rw [if_neg hm] at h
                obtain ⟨sv, h1, h2, h3⟩ := h
                exact ⟨.mk (hdV 0) [], sv, by rw [if_neg hm]; exact h1, h2.ok.sl, h3⟩) :
          ∀ w v, Ext W w → BytV w v (magic ++ imgN n0 ++ more) → Calls Tryd.prog 29 #[v] w fun r w' => ∃ (n : Nd) (sv : Value), r = .returned (.tuple #[nodeV n.h sv, if more = [] then .nilIface else errV (A 16)]) ∧ isSl sv ∧ Ext w w'))
        have HS1 := Lib.hid (by exact (fun w a b ha hb => (by have := same_any (canN n0) a n0 b w ha hb hcs; rwa [hsame] at this) : ∀ w a b, NdOk w (canN n0) a → NdOk w n0 b → Calls Tryd.prog 35 #[nodeV (canN n0).h a, nodeV n0.h b] w fun r w' => r = .returned (.bool true) ∧ Ext w w'))
        have HNM := Lib.hid (fun w (hW : Ext W w) => num_err A 16 w (by omega) (hE.ext hW))
        have hsh1 := short_nodes n1 (by have := few_nodes n1 3000 hf1; omega)
        have hil1 : chkN n1 = 0 → (imgN n1).length ≤ 10000000 := fun hc => by have := img_len n1 (chk_ok hc).1 hsh1; have := few_nodes n1 3000 hf1; omega
        have HEN1 := Lib.hid (fun w (hW : Ext W w) => encode_any n1 sv1 w A 3000 (hn1.ext hW) (hE.ext hW).three (by omega) hf1 hsh1 hil1)
        have HS2 := Lib.hid (fun w (hW : Ext W w) => same_any n0 sv0 n1 sv1 w (hn0.ext hW) (hn1.ext hW) hsm0)
        have HSM := Lib.hid (fun (h : chkN n1 = 0) => img_same hc0 h hsh0 hsh1)
        have hX1 : 1 ≤ (magic ++ imgN n0).length := hX0
        have HNO := Lib.hid hn0
        obtain ⟨PM, cM, rfl⟩ := hM.shape
        clear HCK0 hsh1 hil1 hcc hcf hcs hsame hE hn0 hn1 hsm0 hnn0 hsh0 hel0 hil0 hf0 hf1 hd0 hd1 hc0
        unfold errV at *
        generalize A 16 = ad at *
        generalize hXe : magic ++ imgN n0 = X at *
        generalize canN n0 = cn at *
        generalize hn0h : n0.h = h0 at *
        generalize n1.h = h1 at *
        generalize hcnh : cn.h = ch at *
        obtain ⟨K, hK⟩ : ∃ K, X.length = K := ⟨_, rfl⟩
        rw [hK] at hXl hX0 hX1
        go_enter Tryd.func9, Tryd.ntmps9
        go_upto_region 8 with (first
          | (refine wpl_boxNd rfl _ rfl h0 sv0 rfl ?_; intro b0 w1 hb0 hx1 eb0 sb0)
          | (refine wpl_boxNd rfl _ rfl h1 sv1 rfl ?_; intro b1 w2 hb1 hx2 eb1 sb1)
          | (go_at_call 26; refine (HL.out _ (hx1.trans hx2)).mono ?_; rintro e w3 ⟨rfl, hx3⟩)
          | (refine wpl_loadNd rfl _ rfl b0 0 h0 sv0 rfl (hb0.ext (hx2.trans hx3)).nd ?_)
          | (go_at_call 15; refine (HF0.out _ ((hx1.trans hx2).trans hx3)).mono ?_; rintro e w4 ⟨rfl, hx4⟩)
          | (refine wpl_loadNdG _ rfl rfl b1 0 h1 sv1 rfl (hb1.ext (hx3.trans hx4)).nd ?_)
          | (go_at_call 15; refine (HF1.out _ (((hx1.trans hx2).trans hx3).trans hx4)).mono ?_; rintro e w5 ⟨rfl, hx5⟩)
          | (refine wpl_loadNd rfl _ rfl b0 0 h0 sv0 rfl (hb0.ext (((hx2.trans hx3).trans hx4).trans hx5)).nd ?_)
          | (go_at_call 27; refine (HEN0.out _ ((((hx1.trans hx2).trans hx3).trans hx4).trans hx5)).mono ?_; rintro e w6 ⟨v6, rfl, hL6, hx6⟩))
        have hb06 := hb0.ext ((((hx2.trans hx3).trans hx4).trans hx5).trans hx6)
        have hb16 := hb1.ext (((hx3.trans hx4).trans hx5).trans hx6)
        have hw6 := ((((hx1.trans hx2).trans hx3).trans hx4).trans hx5).trans hx6
        obtain ⟨P6, c6, rfl⟩ := hL6.shape
        clear hb0 hb1 hx1 hx2 hx3 hx4 hx5 hx6 HL HF0 HF1 HEN0 eb0 sb0 eb1 sb1
        rw [hK] at hL6 ⊢
        have HKX := Lib.hid hK
        clear hK
        go_upto_region 9 with (first
          | (go_at_call 29; refine (HD1.out _ _ hw6 hL6.byt).mono ?_; rintro e w7 ⟨sv7, rfl, hn7, hx7⟩)
          | (refine wpl_allocNd rfl rfl ?_; intro z w8 hz hx8 ez sz)
          | (refine wpl_storeNd rfl _ _ rfl rfl z ch _ sv7 _ rfl rfl hn7.ok.sl hz ?_; intro w9 hz9 hk9; have hx9 := hx8.keep1 hk9 ez))
        have hw9 := (hw6.trans hx7).trans hx9
        have hx69 := hx7.trans hx9
        have hb09 := hb06.ext hx69
        have hb19 := hb16.ext hx69
        have hn9 := hn7.ok.ext hx9
        have hL9 := hL6.ext hx69
        have hkz : ((K : Int) == 0) = false := by rw [beq_eq_false_iff_ne]; omega
        have hkw : IntKind.u64.wrap (K : Int) = (K : Int) := by rw [IntKind.wrap_u64]; omega
        obtain ⟨k, hk1, hk2⟩ := pick_cut cut K hX0 (by omega)
        rw [hkw] at hk1
        obtain ⟨a6, rfl, hc6, hrd9⟩ : ∃ a, P6 = some a ∧ K ≤ c6 ∧ RdA w9 a X := by
          rcases hL9.byt with ⟨_, e⟩ | ⟨a, c, h, h2, h3⟩
          · have := HKX.out
            rw [e, List.length_nil] at this
            omega
          · injection h with e1 e2 e3
            subst e1 e3
            exact ⟨a, rfl, by rw [← HKX.out]; exact h2, h3⟩
        have hsl : ∀ w, (Instr.slice 43 (.slice (some a6) K c6) none (some (.int .i64 (k : Int))) none).run Tryd.prog w = .ok (.slice (some a6) k c6) w := fun w => slice_to w a6 K c6 k (by omega) hc6
        have HKK := Lib.hid (show k < X.length by rw [HKX.out]; exact hk2)
        clear hb06 hb16 hw6 hL6 hx7 hn7 hz hx8 ez sz hk9 hx9 hx69 HD1
        go_upto_region 11 with (first
          | (refine wpl_loadNdG _ rfl rfl z 0 ch sv7 rfl hz9.nd ?_)
          | (refine wpl_loadNdG _ rfl rfl b0 0 h0 sv0 rfl hb09.nd ?_)
          | (go_at_call 35; refine (HS1.out _ _ _ hn9 (HNO.out.ext hw9)).mono ?_; rintro e wa ⟨rfl, hxa⟩))
        have hrda := hrd9.ext hxa
        have hwa := hw9.trans hxa
        go_upto_region 12 with (first
          | (go_at_call 29; refine (HD2.out _ _ k hwa HKK.out (BytV.take hrda k (Nat.le_of_lt HKK.out) (by rw [HKX.out]; exact hc6))).mono ?_; rintro e wb ⟨svb, rfl, hnb, hxb⟩)
          | (refine wpl_allocNd rfl rfl ?_; intro zs wc hzs hxc ezs szs)
          | (refine wpl_storeNd rfl _ _ rfl rfl zs (hdV 0) _ svb _ rfl rfl hnb.ok.sl hzs ?_; intro wd hzd hkd; have hxd := hxc.keep1 hkd ezs))
        have hxad := hxb.trans hxd
        have hwd := hwa.trans hxad
        have hb0d := hb09.ext (hxa.trans hxad)
        have hb1d := hb19.ext (hxa.trans hxad)
        have hLd := hL9.ext (hxa.trans hxad)
        have hMd := hM.ext hwd
        clear hb09 hb19 hw9 hn9 hL9 hk1 hk2 hrd9 hsl HKK hrda hwa hxb hnb hzs hxc ezs szs hzd hkd hxd hxad hxa hz9 HS1 HD2 hkz hkw
        have HO := Lib.hid (OwnB.new (B := wd.heap.size) (l := []) (Blk.new wd 5 #[]) (Nat.le_refl _) rfl rfl (by decide))
        have hxe := (Ext.refl wd).alloc (.cells #[] 5)
        have hXne : X ≠ [] := fun e => by have := HKX.out; rw [e, List.length_nil] at this; omega
        have hXL : X.length ≤ 1000000 := by rw [HKX.out]; omega
        have hse := hxe.size
        go_upto_region 13 with (first
          | (refine wpl_appBs rfl _ _ rfl wd.heap.size w5.heap.size _ _ [] X rfl rfl HO.out (hLd.ext hxe) hse (by simp) (by omega) ?_; intro ve we hLe hge; have hxde := hge.ext HO.out hxe (Nat.le_refl _); rw [List.nil_append] at hLe)
          | (refine wpl_appBig rfl _ _ rfl wd.heap.size ve _ X more rfl rfl hLe hXne (hMd.ext hxde) hxde.size hXL hml ?_; intro vf wf hLf hgf; have hxdf := hgf.ext hLe hxde (Nat.le_refl _))
          | (go_at_call 29; refine (HD3.out _ _ (hwd.trans hxdf) hLf.byt).mono ?_; rintro e wg ⟨ng, svg, rfl, hsg, hxg⟩)
          | (refine wpl_allocNd rfl rfl ?_; intro zl wh hzl hxh ezl szl)
          | (refine wpl_storeNd rfl _ _ rfl rfl zl ng.h _ svg _ rfl rfl hsg hzl ?_; intro wi hzi hki; have hxi := hxh.keep1 hki ezl))
        have hxdi := (hxdf.trans hxg).trans hxi
        have hwi := hwd.trans hxdi
        have hb0i := hb0d.ext hxdi
        have hb1i := hb1d.ext hxdi
        have hLi := hLd.ext hxdi
        clear hwd hb0d hb1d hLd hMd HO hxe hXL hse hLe hge hxde hLf hgf hxdf hsg hxg hzl hxh ezl szl hzi hki hxi hxdi HD3 hM hml
        try simp only [Act.put, List.setIfInBounds_toArray, List.set_cons_succ, List.set_cons_zero]
        go_cut [3, 15, 92] (fun v v' c wx => c = .bool false ∧ Ext wi wx)
        case first =>
          clear HEN1 HS2 HSM
          by_cases hmo : more = []
          · subst hmo
            rw [if_pos rfl]
            go_wp2_with (go_at_call 20; refine (HNM.out _ hwi).mono ?_; rintro e wj ⟨rfl, hxj⟩)
            go_meet
            case rel => exact ⟨rfl, hxj⟩
          · rw [if_neg hmo]
            obtain ⟨t, ht⟩ : ∃ t, more.length = t + 1 := ⟨more.length - 1, by have := List.length_pos_iff.2 hmo; omega⟩
            rw [ht]
            have ht0 : ((t : Int) + 1 == 0) = false := by rw [beq_eq_false_iff_ne]; omega
            go_wp2_with (go_at_call 20; refine (HNM.out _ hwi).mono ?_; rintro e wj ⟨rfl, hxj⟩)
            go_meet
            case rel => exact ⟨rfl, hxj⟩
        obtain ⟨rfl, hxij⟩ := hcut
        generalize wc = wj at *
        have hwj := hwi.trans hxij
        have hb0j := hb0i.ext hxij
        have hb1j := hb1i.ext hxij
        have hLj := hLi.ext hxij
        clear hwi hb0i hb1i hLi hxij HNM
        obtain ⟨sX, hsX⟩ : ∃ sX, (⟨X.toArray⟩ : ByteArray) = sX := ⟨_, rfl⟩
        by_cases hc1 : chkN n1 = 0
        · have HEN1' := Lib.hid (by exact (fun w hW => by
            have := HEN1.out w hW
            unfold RetE encR at this
            rw [hc1, if_pos rfl, errR, if_pos rfl] at this
            exact this : ∀ w, Ext W w → Calls Tryd.prog 27 #[nodeV h1 sv1] w fun r w' => ∃ v, r = .returned (.tuple #[v, .nilIface]) ∧ OwnB w' w.heap.size v (magic ++ imgN n1) ∧ Ext w w'))
          have hqm := HSM.out hc1
          obtain ⟨sY, hsY⟩ : ∃ sY, (⟨(magic ++ imgN n1).toArray⟩ : ByteArray) = sY := ⟨_, rfl⟩
          have heq : (sX.toList == sY.toList) = sameN n0 n1 := by
            rw [← hsX, ← hsY, strV_tl, strV_tl, ← hqm, Bool.eq_iff_iff]
            simp
          clear HEN1 HSM hqm hc1
          generalize sameN n0 n1 = sm at *
          generalize magic ++ imgN n1 = Y at *
          go_upto_region 15 with fail
          go_upto_region 16 with (first
            | (refine wpl_loadNd rfl _ rfl b1 0 h1 sv1 rfl hb1j.nd ?_)
            | (go_at_call 27; refine (HEN1'.out _ hwj).mono ?_; rintro e wk ⟨vk, rfl, hLk, hxk⟩))
          have hwk := hwj.trans hxk
          have hb0k := hb0j.ext hxk
          have hb1k := hb1j.ext hxk
          have s1 : ∀ y : Ex wk, (convert 43 9 (.slice (some a6) K c6)).run Tryd.prog (plus wk y) = .ok (.string sX) (plus wk y) := fun y => by rw [← hsX]; exact (hLj.ext (hxk.trans (plus_ext wk y))).conv
          have s2 : ∀ y : Ex wk, (convert 43 9 vk).run Tryd.prog (plus wk y) = .ok (.string sY) (plus wk y) := fun y => by rw [← hsY]; exact (hLk.ext (plus_ext wk y)).conv
          clear hLk hLj hwj hb0j hb1j hxk hsX hsY HEN1'
          refine wp_region_plus (by kernel_rfl) (by kernel_rfl) ?_
          repeat (first
            | (refine wpQuiet_loadNd _ rfl rfl b0 0 h0 sv0 rfl hb0k.nd ?_; simp only [Act.put, List.setIfInBounds_toArray, List.set_cons_succ, List.set_cons_zero])
            | (refine wpQuiet_loadNd _ rfl rfl b1 0 h1 sv1 rfl hb1k.nd ?_; simp only [Act.put, List.setIfInBounds_toArray, List.set_cons_succ, List.set_cons_zero])
            | (go_big_quiet_step (first | (go_at_call 35; exact Calls.plus_of (HS2.out _ (hwk.trans (plus_ext _ _)))))))
          refine wpQuiet_nil ?_
          intro y
          have hy := hwk.trans (plus_ext _ y)
          go_wp2
          go_ret
          exact ⟨by simp, hy⟩
        · have HEN1' := Lib.hid (by exact (fun w hW => by
            have := HEN1.out w hW
            unfold RetE encR at this
            rw [if_neg hc1, errR, if_neg hc1] at this
            exact this : ∀ w, Ext W w → Calls Tryd.prog 27 #[nodeV h1 sv1] w fun r w' => ∃ v, r = .returned (.tuple #[v, errV (A (chkN n1 - 1))]) ∧ OwnB w' w.heap.size v [] ∧ Ext w w'))
          unfold errV at HEN1'
          clear HEN1 HSM HS2 hLj hsX hc1
          generalize A (chkN n1 - 1) = ab at *
          go_step
          go_upto_region 16 with (first
            | (refine wpl_loadNd rfl _ rfl b1 0 h1 sv1 rfl hb1j.nd ?_)
            | (go_at_call 27; refine (HEN1'.out _ hwj).mono ?_; rintro e wk ⟨vk, rfl, hLk, hxk⟩))
          have hwk := hwj.trans hxk
          clear hLk hwj hb0j hb1j hxk HEN1'
          refine wp_region_plus (by kernel_rfl) (by kernel_rfl) ?_
          repeat (go_big_quiet_step (fail))
          refine wpQuiet_nil ?_
          intro y
          have hy := hwk.trans (plus_ext _ y)
          go_wp2
          go_ret
          exact ⟨rfl, hy⟩
      · replace HEN0 := Lib.hid (by exact (fun w hW => by
          have := HEN0.out w hW
          unfold RetE encR at this
          rw [if_neg hc0, errR, if_neg hc0] at this
          exact this : ∀ w, Ext W w → Calls Tryd.prog 27 #[nodeV n0.h sv0] w fun r w' => ∃ v, r = .returned (.tuple #[v, errV (A (chkN n0 - 1))]) ∧ OwnB w' w.heap.size v [] ∧ Ext w w'))
        replace HCK0 := Lib.hid (by exact (fun w hW => by
          have := HCK0.out w hW
          rw [errR, if_neg hc0] at this
          exact this : ∀ w, Ext W w → Calls Tryd.prog 31 #[nodeV n0.h sv0] w fun r w' => r = .returned (errV (A (chkN n0 - 1))) ∧ Ext w w'))
        clear hE hn0 hn1 hM hsm0 hnn0 hsh0 hel0 hil0 hf0 hf1 hd0 hd1 hc0
        unfold errV at *
        generalize A (chkN n0 - 1) = ad at *
        generalize n0.h = h0 at *
        generalize n1.h = h1 at *
        go_enter Tryd.func9, Tryd.ntmps9
        go_upto_region 7 with (first
          | (refine wpl_boxNd rfl _ rfl h0 sv0 rfl ?_; intro b0 w1 hb0 hx1 eb0 sb0)
          | (refine wpl_boxNd rfl _ rfl h1 sv1 rfl ?_; intro b1 w2 hb1 hx2 eb1 sb1)
          | (go_at_call 26; refine (HL.out _ (hx1.trans hx2)).mono ?_; rintro e w3 ⟨rfl, hx3⟩)
          | (refine wpl_loadNd rfl _ rfl b0 0 h0 sv0 rfl (hb0.ext (hx2.trans hx3)).nd ?_)
          | (go_at_call 15; refine (HF0.out _ ((hx1.trans hx2).trans hx3)).mono ?_; rintro e w4 ⟨rfl, hx4⟩)
          | (refine wpl_loadNdG _ rfl rfl b1 0 h1 sv1 rfl (hb1.ext (hx3.trans hx4)).nd ?_)
          | (go_at_call 15; refine (HF1.out _ (((hx1.trans hx2).trans hx3).trans hx4)).mono ?_; rintro e w5 ⟨rfl, hx5⟩)
          | (refine wpl_loadNd rfl _ rfl b0 0 h0 sv0 rfl (hb0.ext (((hx2.trans hx3).trans hx4).trans hx5)).nd ?_)
          | (go_at_call 27; refine (HEN0.out _ ((((hx1.trans hx2).trans hx3).trans hx4).trans hx5)).mono ?_; rintro e w6 ⟨v6, rfl, hL6, hx6⟩))
        have hb6 := hb0.ext ((((hx2.trans hx3).trans hx4).trans hx5).trans hx6)
        have hw6 := ((((hx1.trans hx2).trans hx3).trans hx4).trans hx5).trans hx6
        obtain ⟨P6, c6, rfl⟩ := hL6.shape
        clear hb0 hb1 hx1 hx2 hx3 hx4 hx5 hx6 hL6
        go_wp2_with (first
          | (refine wpl_loadNd rfl _ rfl b0 0 h0 sv0 rfl hb6.nd ?_)
          | (go_at_call 31; refine (HCK0.out _ hw6).mono ?_; rintro e w7 ⟨rfl, hx7⟩))
        go_ret
        exact ⟨rfl, hw6.trans hx7⟩
    · have hd1 : decide (0 ≤ leftN n1 3000) = false := by simpa using hf1
      rw [hd1] at HF1
      clear hE hn0 hn1 hM hd0 hd1 hf0 hf1
      generalize n0.h = h0 at *
      generalize n1.h = h1 at *
      go_enter Tryd.func9, Tryd.ntmps9
      go_wp2_with (first
        | (refine wpl_boxNd rfl _ rfl h0 sv0 rfl ?_; intro b0 w1 hb0 hx1 eb0 sb0)
        | (refine wpl_boxNd rfl _ rfl h1 sv1 rfl ?_; intro b1 w2 hb1 hx2 eb1 sb1)
        | (go_at_call 26; refine (HL.out _ (hx1.trans hx2)).mono ?_; rintro e w3 ⟨rfl, hx3⟩)
        | (refine wpl_loadNd rfl _ rfl b0 0 h0 sv0 rfl (hb0.ext (hx2.trans hx3)).nd ?_)
        | (go_at_call 15; refine (HF0.out _ ((hx1.trans hx2).trans hx3)).mono ?_; rintro e w4 ⟨rfl, hx4⟩)
        | (refine wpl_loadNdG _ rfl rfl b1 0 h1 sv1 rfl (hb1.ext (hx3.trans hx4)).nd ?_)
        | (go_at_call 15; refine (HF1.out _ (((hx1.trans hx2).trans hx3).trans hx4)).mono ?_; rintro e w5 ⟨rfl, hx5⟩))
      go_ret
      exact ⟨rfl, (((hx1.trans hx2).trans hx3).trans hx4).trans hx5⟩
  · have hd0 : decide (0 ≤ leftN n0 3000) = false := by simpa using hf0
    rw [hd0] at HF0
    clear hE hn0 hn1 hM hd0 hf0 HF1
    generalize n0.h = h0 at *
    generalize n1.h = h1 at *
    go_enter Tryd.func9, Tryd.ntmps9
    go_wp2_with (first
      | (refine wpl_boxNd rfl _ rfl h0 sv0 rfl ?_; intro b0 w1 hb0 hx1 eb0 sb0)
      | (refine wpl_boxNd rfl _ rfl h1 sv1 rfl ?_; intro b1 w2 hb1 hx2 eb1 sb1)
      | (go_at_call 26; refine (HL.out _ (hx1.trans hx2)).mono ?_; rintro e w3 ⟨rfl, hx3⟩)
      | (refine wpl_loadNd rfl _ rfl b0 0 h0 sv0 rfl (hb0.ext (hx2.trans hx3)).nd ?_)
      | (go_at_call 15; refine (HF0.out _ ((hx1.trans hx2).trans hx3)).mono ?_; rintro e w4 ⟨rfl, hx4⟩))
    go_ret
    exact ⟨rfl, ((hx1.trans hx2).trans hx3).trans hx4⟩

end Go.Proofs.YthddlhpndaffjaaDoor
