/- expand.plain as a contract. Condition: the tree lies in memory, its lists are short. -/
import Derived.Test.YthddlhpndaffjaaDoorNodeW
import Derived.Test.YthddlhpndaffjaaDoorExpP
namespace Go.Proofs.YthddlhpndaffjaaDoor
open Go Go.RowKit

theorem plainL_app : ∀ (a b : List Nd), plainL (a ++ b) = (plainL a && plainL b)
  | [], _ => by simp [plainL]
  | n :: a, b => by
    show plainL (n :: (a ++ b)) = _
    rw [plainL, plainL, plainL_app a b, Bool.and_assoc]
theorem plainL_one (n : Nd) : plainL [n] = plainN n := by simp [plainL]

set_option maxRecDepth 100000 in
set_option maxHeartbeats 4000000 in
theorem plain_any : ∀ (n : Nd) (sv : Value) (w : World), NdOk w n sv → smallN n →
    Calls Tryd.prog 57 #[nodeV n.h sv] w fun r w' => r = .returned (.bool (plainN n)) ∧ Ext w w' := by
  refine Nd.ind fun hd subs ih sv w hn hsm => ?_
  obtain ⟨A, c, rfl⟩ := hn.shape
  obtain ⟨hlen, hsm⟩ := hsm
  have IH := Lib.hid (fun n hm sv w hn => ih n hm sv w hn (smallL_mem hsm n hm))
  have HN := Lib.hid hn
  have HP := Lib.hid (by rw [plainN] : plainN (.mk hd subs) = (onceB hd && plainL subs))
  have HB := Lib.hid (show onceB hd = !(decide (hd.kind = 8) && (decide (hd.min ≠ 0) || (decide (hd.max ≠ 1) && decide (hd.max ≠ -1)))) from rfl)
  clear ih hsm hn
  generalize plainN (.mk hd subs) = res at *
  simp only [Nd.h, Nd.subs] at *
  go_enter Tryd.func57, Tryd.ntmps57
  go_upto_region 1 with (refine wpl_boxNd rfl _ rfl hd _ rfl ?_; intro b w1 hb hx1 eb sb)
  have c0 : w1.cell? ⟨b, 0, none⟩ = some (.int .i64 hd.kind) := hb.cell 0
  have c5 : w1.cell? ⟨b, 5, none⟩ = some (.slice A subs.length c) := hb.cell 5
  have c7 : w1.cell? ⟨b, 7, none⟩ = some (.int .i64 hd.min) := hb.cell 7
  have c8 : w1.cell? ⟨b, 8, none⟩ = some (.int .i64 hd.max) := hb.cell 8
  generalize onceB hd = ob at *
  generalize hd.kind = kind at *
  generalize hd.min = mn at *
  generalize hd.max = mx at *
  go_cut [22] (fun v wx => v = .bool (!ob) ∧ w1 = wx)
  case first =>
    have hcs : (kind ≠ 8 ∧ ob = true) ∨ (kind = 8 ∧ mn ≠ 0 ∧ ob = false) ∨ (kind = 8 ∧ mn = 0 ∧ mx = 1 ∧ ob = true) ∨ (kind = 8 ∧ mn = 0 ∧ mx = -1 ∧ ob = true) ∨ (kind = 8 ∧ mn = 0 ∧ mx ≠ 1 ∧ mx ≠ -1 ∧ ob = false) := by
      have := HB.out
      by_cases h1 : kind = 8
      · by_cases h2 : mn = 0
        · by_cases h3 : mx = 1
          · exact .inr (.inr (.inl ⟨h1, h2, h3, by rw [this, h1, h2, h3]; rfl⟩))
          · by_cases h4 : mx = -1
            · exact .inr (.inr (.inr (.inl ⟨h1, h2, h4, by rw [this, h1, h2, h4]; rfl⟩)))
            · exact .inr (.inr (.inr (.inr ⟨h1, h2, h3, h4, by rw [this]; simp [h1, h3, h4]⟩)))
        · exact .inr (.inl ⟨h1, h2, by rw [this]; simp [h1, h2]⟩)
      · exact .inl ⟨h1, by rw [this]; simp [h1]⟩
    clear HB HP IH HN
    rcases hcs with ⟨h1, rfl⟩ | ⟨rfl, h2, rfl⟩ | ⟨rfl, rfl, rfl, rfl⟩ | ⟨rfl, rfl, rfl, rfl⟩ | ⟨rfl, rfl, h3, h4, rfl⟩
    case' inl => have n1 : (kind == 8) = false := by rw [beq_eq_false_iff_ne]; exact h1
    case' inr.inl => have n1 : (mn == 0) = false := by rw [beq_eq_false_iff_ne]; exact h2
    case' inr.inr.inr.inr =>
      have n1 : (mx == 1) = false := by rw [beq_eq_false_iff_ne]; exact h3
      have n2 : (mx == -1) = false := by rw [beq_eq_false_iff_ne]; exact h4
      have n3 : (mx != 1) = true := by simpa using h3
      have n4 : (mx != -1) = true := by simpa using h4
    all_goals
      go_wp2
      all_goals
        go_meet
        case rel => exact ⟨rfl, rfl⟩
  obtain ⟨rfl, rfl⟩ := hcut
  clear HB c0 c7 c8
  cases ob
  · go_wp2
    go_ret
    exact ⟨by rw [HP.out]; rfl, hx1⟩
  · have hx11 : Ext w1 w1 := Ext.refl w1
    simp only [Bool.not_true]
    go_wp2
    go_loopw [26] (fun i wr => ∃ k : Nat, k ≤ subs.length ∧ i = .int .i64 k ∧ plainL (subs.take k) = true ∧ Ext w1 wr) (fun i _ => subs.length - (intOf i).toNat)
    case atStart => exact ⟨0, Nat.zero_le _, rfl, by rw [List.take_zero, plainL], hx11⟩
    case round =>
      clear hx11
      obtain ⟨k, hk, rfl, hfl, hx⟩ := hrel
      have HL := Lib.hid hfl
      clear hfl
      by_cases hlt : k < subs.length
      · obtain ⟨g0, o0, sv, rfl, hat, hok⟩ := HN.out.get k hlt
        have hxw := hx1.trans hx
        replace hat := hat.ext hxw
        have HST := Lib.hid (show plainL (subs.take (k + 1)) = plainN subs[k] by rw [take_snoc subs k hlt, plainL_app, HL.out, plainL_one, Bool.true_and])
        have HEN := Lib.hid (show plainN subs[k] = false → plainL subs = false from fun h => by rw [← List.take_append_drop (k + 1) subs, plainL_app, HST.out, h, Bool.false_and])
        have IHk := Lib.hid (fun w' (hw' : Ext wr w') => IH.out subs[k] (List.getElem_mem hlt) sv w' (NdOk.ext (hxw.trans hw') _ _ hok))
        have hsh := hok.sl
        clear IH HN HL hok
        generalize plainN subs[k] = pk at *
        generalize subs[k] = nk at *
        have d1 : (k : Int) < (subs.length : Int) := by omega
        cases pk
        all_goals
          go_wp2_with (first
            | (refine wpl_loadNd rfl _ rfl g0 (o0 + k * 10) nk.h sv rfl hat ?_)
            | (refine wpl_allocNd rfl rfl ?_; intro s w4 hs hx4 es ss)
            | (refine wpl_storeNd rfl _ _ rfl rfl s nk.h _ sv _ rfl rfl hsh hs ?_; intro w5 hs5 hk5; have hx5 := hx4.keep1 hk5 es)
            | (refine wpl_loadNd rfl _ rfl s 0 nk.h sv rfl hs5.nd ?_)
            | (go_at_call 57; refine (IHk.out _ hx5).mono ?_; rintro e w6 ⟨rfl, hx6⟩))
        · go_ret
          exact ⟨by rw [HP.out, HEN.out trivial, Bool.and_false]; rfl, hxw.trans (hx5.trans hx6)⟩
        · go_roundw
          case rel => exact ⟨k + 1, by omega, by go_num, HST.out, hx.trans (hx5.trans hx6)⟩
          case measure => simp [intOf]; omega
      · have hkl : subs.take k = subs := List.take_of_length_le (by omega)
        rw [hkl] at HL
        have hd1 : ¬ (k : Int) < (subs.length : Int) := by omega
        clear IH HN hkl
        go_wp2
        go_ret
        exact ⟨by rw [HP.out, HL.out]; rfl, hx1.trans hx⟩

end Go.Proofs.YthddlhpndaffjaaDoor
