/- trawlref04.Depth as a contract. Condition: the tree lies in memory, it has few nodes. -/
import Derived.Test.YthddlhpndaffjaaDoorDepth
import Derived.Test.YthddlhpndaffjaaDoorNodeW
namespace Go.Proofs.YthddlhpndaffjaaDoor
open Go Go.RowKit

set_option maxRecDepth 100000 in
set_option maxHeartbeats 8000000 in
theorem depth04_any : ∀ (n : Nd) (sv : Value) (w : World) (m : Int), NdOk w n sv → m ≤ 1000000 → 0 ≤ leftN n m →
    Calls Tryd.prog 77 #[nodeV n.h sv] w fun r w' => r = .returned (.int .i64 (depthN n)) ∧ Ext w w' := by
  refine Nd.ind fun hd subs ih sv w m hn hm1 hfew => ?_
  obtain ⟨A, c, rfl⟩ := hn.shape
  have hrange := depthN_few (.mk hd subs) m hfew
  have hlr : leftN (.mk hd subs) m = leftL subs (m - 1) := by rw [leftN]
  rw [hlr] at hfew hrange
  have hlen := leftL_len subs (m - 1) hfew
  have IH := Lib.hid ih
  have HN := Lib.hid hn
  have HFW := Lib.hid hfew
  have HZ := Lib.hid (show depthN (.mk hd subs) = depthA 0 subs + (if deepB hd subs.length = true then 1 else 0) + 1 by rw [depthN])
  clear ih hlr hn
  generalize depthN (.mk hd subs) = ss at *
  simp only [Nd.h, Nd.subs] at *
  go_enter Tryd.func77, Tryd.ntmps77
  go_upto_region 1 with (refine wpl_boxNd rfl _ rfl hd _ rfl ?_; intro b w1 hb hx1 eb sb)
  have c0 : w1.cell? ⟨b, 0, none⟩ = some (.int .i64 hd.kind) := hb.cell 0
  have c5 : w1.cell? ⟨b, 5, none⟩ = some (.slice A subs.length c) := hb.cell 5
  have c7 : w1.cell? ⟨b, 7, none⟩ = some (.int .i64 hd.min) := hb.cell 7
  have c8 : w1.cell? ⟨b, 8, none⟩ = some (.int .i64 hd.max) := hb.cell 8
  have HDB := Lib.hid (show deepB hd subs.length = (decide (hd.kind = 8) && decide (0 < subs.length) && (decide (hd.min ≠ 0) || (decide (hd.max ≠ 1) && decide (hd.max ≠ -1)))) from rfl)
  generalize deepB hd subs.length = db at *
  generalize hd.kind = kind at *
  generalize hd.min = mn at *
  generalize hd.max = mx at *
  have hx11 : Ext w1 w1 := Ext.refl w1
  clear hb
  go_wp2
  go_loopw [3, 4] (fun a i wr => ∃ k : Nat, k ≤ subs.length ∧ i = .int .i64 k ∧ a = .int .i64 (depthA 0 (subs.take k)) ∧ Ext w1 wr) (fun _ i _ => subs.length - (intOf i).toNat)
  case atStart => exact ⟨0, Nat.zero_le _, rfl, by rw [List.take_zero, depthA], hx11⟩
  case round =>
    clear hx11
    obtain ⟨k, hk', rfl, rfl, hx⟩ := hrel
    have hxw := hx1.trans hx
    by_cases hlt : k < subs.length
    · obtain ⟨g0, o0, sv, rfl, hat, hok⟩ := HN.out.get k hlt
      have hpre : 0 ≤ leftL (subs.take k) (m - 1) := by
        have h1 := HFW.out
        rw [← List.take_append_drop k subs, leftL_app] at h1
        rcases Int.lt_or_le (leftL (subs.take k) (m - 1)) 0 with h | h
        · rw [leftL_neg _ _ h] at h1; omega
        · exact h
      have hpre1 : 0 ≤ leftL (subs.take (k + 1)) (m - 1) := by
        have h1 := HFW.out
        rw [← List.take_append_drop (k + 1) subs, leftL_app] at h1
        rcases Int.lt_or_le (leftL (subs.take (k + 1)) (m - 1)) 0 with h | h
        · rw [leftL_neg _ _ h] at h1; omega
        · exact h
      rw [take_snoc subs k hlt, leftL_app, leftL_one _ _ hpre] at hpre1
      have hle := leftL_len (subs.take k) (m - 1) hpre
      replace hat := hat.ext hxw
      have c5' := hx.cell c5
      have IHk := Lib.hid (IH.out subs[k] (List.getElem_mem hlt) sv wr _ (NdOk.ext hxw _ _ hok) (by omega) hpre1)
      have HST := Lib.hid (show depthA 0 (subs.take (k + 1)) = Max.max (depthA 0 (subs.take k)) (depthN subs[k]) by rw [take_snoc subs k hlt, depthA_app, depthA, depthA])
      clear IH HN HFW hok hpre hpre1 hle c0 c5 c7 c8 HDB HZ
      generalize depthN subs[k] = res at *
      generalize depthA 0 (subs.take k) = acc at *
      generalize subs[k] = nk at *
      have t1 : (k : Int) < (subs.length : Int) := by omega
      go_wp2_with (first
        | (refine wpl_loadNd rfl _ rfl g0 (o0 + k * 10) nk.h sv rfl hat ?_)
        | (go_at_call 77; refine IHk.out.mono ?_; rintro e w6 ⟨rfl, hx6⟩))
      go_roundw
      case rel => exact ⟨k + 1, by omega, by go_num, by rw [HST.out, max_if], hx.trans hx6⟩
      case measure => simp [intOf]; omega
    · have hkl : subs.take k = subs := List.take_of_length_le (by omega)
      rw [hkl]
      have ht := depthA_few subs (m - 1) 0 HFW.out (by omega)
      have hl0 := HFW.out
      generalize depthA 0 subs = tot at *
      have t0 : 0 ≤ tot := by omega
      have t1 : tot ≤ 2000000 := by omega
      have q1 : IntKind.i64.wrap (tot + 1) = tot + 1 := by rw [IntKind.wrap_i64]; omega
      have q2 : IntKind.i64.wrap (tot + 2) = tot + 2 := by rw [IntKind.wrap_i64]; omega
      replace c0 := hx.cell c0
      replace c5 := hx.cell c5
      replace c7 := hx.cell c7
      replace c8 := hx.cell c8
      have d1 : ¬ (k : Int) < (subs.length : Int) := by omega
      have hcs : (ss = tot + 2 ∧ kind = 8 ∧ (0 : Int) < (subs.length : Int) ∧ mn ≠ 0) ∨ (ss = tot + 2 ∧ kind = 8 ∧ (0 : Int) < (subs.length : Int) ∧ mn = 0 ∧ mx ≠ 1 ∧ mx ≠ -1) ∨
          (ss = tot + 1 ∧ mn = 0 ∧ mx = 1) ∨ (ss = tot + 1 ∧ mn = 0 ∧ mx = -1) ∨ (ss = tot + 1 ∧ kind ≠ 8 ∧ mn ≠ 0) ∨ (ss = tot + 1 ∧ kind ≠ 8 ∧ mn = 0 ∧ mx ≠ 1 ∧ mx ≠ -1) ∨
          (ss = tot + 1 ∧ kind = 8 ∧ ¬ (0 : Int) < (subs.length : Int) ∧ mn ≠ 0) ∨ (ss = tot + 1 ∧ kind = 8 ∧ ¬ (0 : Int) < (subs.length : Int) ∧ mn = 0 ∧ mx ≠ 1 ∧ mx ≠ -1) := by
        have hz := HZ.out
        have hdb := HDB.out
        by_cases s1 : mn = 0
        · by_cases s2 : mx = 1
          · simp [s1, s2] at hdb
            rw [hdb] at hz
            exact .inr (.inr (.inl ⟨by simpa using hz, s1, s2⟩))
          · by_cases s3 : mx = -1
            · simp [s1, s3] at hdb
              rw [hdb] at hz
              exact .inr (.inr (.inr (.inl ⟨by simpa using hz, s1, s3⟩)))
            · by_cases s4 : kind = 8
              · by_cases s5 : 0 < subs.length
                · simp [s1, s2, s3, s4, s5] at hdb
                  rw [hdb] at hz
                  exact .inr (.inl ⟨by simp at hz; omega, s4, by omega, s1, s2, s3⟩)
                · simp [s5] at hdb
                  rw [hdb] at hz
                  exact .inr (.inr (.inr (.inr (.inr (.inr (.inr ⟨by simpa using hz, s4, by omega, s1, s2, s3⟩))))))
              · simp [s4] at hdb
                rw [hdb] at hz
                exact .inr (.inr (.inr (.inr (.inr (.inl ⟨by simpa using hz, s4, s1, s2, s3⟩)))))
        · by_cases s4 : kind = 8
          · by_cases s5 : 0 < subs.length
            · simp [s1, s4, s5] at hdb
              rw [hdb] at hz
              exact .inl ⟨by simp at hz; omega, s4, by omega, s1⟩
            · simp [s5] at hdb
              rw [hdb] at hz
              exact .inr (.inr (.inr (.inr (.inr (.inr (.inl ⟨by simpa using hz, s4, by omega, s1⟩))))))
          · simp [s4] at hdb
            rw [hdb] at hz
            exact .inr (.inr (.inr (.inr (.inl ⟨by simpa using hz, s4, s1⟩))))
      clear IH HN HFW ht hl0 hrange HZ HDB hkl
      rcases hcs with ⟨hs, rfl, hl, h1⟩ | ⟨hs, rfl, hl, rfl, h2, h3⟩ | ⟨hs, rfl, rfl⟩ | ⟨hs, rfl, rfl⟩ | ⟨hs, h4, h1⟩ | ⟨hs, h4, rfl, h2, h3⟩ | ⟨hs, rfl, hl, h1⟩ | ⟨hs, rfl, hl, rfl, h2, h3⟩
      all_goals
        have HS := Lib.hid hs
        clear hs
        try have n1 : (mn == 0) = false := by simpa using h1
        try have n2 : (mx == 1) = false := by simpa using h2
        try have n3 : (mx == -1) = false := by simpa using h3
        try have n4 : (kind == 8) = false := by simpa using h4
        go_wp2
        all_goals
          go_ret
          exact ⟨by rw [HS.out]; rfl, hx1.trans hx⟩

end Go.Proofs.YthddlhpndaffjaaDoor
