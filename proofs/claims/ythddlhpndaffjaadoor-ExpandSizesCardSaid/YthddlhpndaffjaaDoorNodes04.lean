/- trawlref04.Nodes and tree.Size as contracts. Condition: the tree lies in memory, its lists are short. -/
import Derived.Test.YthddlhpndaffjaaDoorNodeW
import Derived.Test.YthddlhpndaffjaaDoorExpP
import Derived.Test.YthddlhpndaffjaaDoorSize
namespace Go.Proofs.YthddlhpndaffjaaDoor
open Go Go.RowKit

theorem min_ifm (a m : Int) : Min.min a m = if m < a then m else a := by rw [Int.min_def]; split <;> split <;> omega

set_option maxRecDepth 100000 in
set_option maxHeartbeats 4000000 in
theorem nodes04_any : ∀ (n : Nd) (sv : Value) (m : Int) (w : World), NdOk w n sv → smallN n → 0 ≤ m → m ≤ 1000000 →
    Calls Tryd.prog 32 #[nodeV n.h sv, .int .i64 m] w fun r w' => r = .returned (.int .i64 (Min.min (nodesN n) (m + 1))) ∧ Ext w w' := by
  refine Nd.ind fun hd subs ih sv m w hn hsm h0 h1 => ?_
  obtain ⟨A, c, rfl⟩ := hn.shape
  obtain ⟨hlen, hsm⟩ := hsm
  have IH := Lib.hid (fun n hm sv w hn => ih n hm sv m w hn (smallL_mem hsm n hm) h0 h1)
  have HN := Lib.hid hn
  have HR := Lib.hid (show nodesN (.mk hd subs) = 1 + nodesL subs by rw [nodesN])
  clear ih hsm hn
  generalize nodesN (.mk hd subs) = res at *
  simp only [Nd.h, Nd.subs] at *
  go_enter Tryd.func32, Tryd.ntmps32
  go_upto_region 2 with (refine wpl_boxNd rfl _ rfl hd _ rfl ?_; intro b w1 hb hx1 eb sb)
  have HS := Lib.hid (show Min.min (1 : Int) (m + 1) = Min.min (1 + nodesL (subs.take 0)) (m + 1) by rw [List.take_zero, nodesL]; rfl)
  have hx11 : Ext w1 w1 := Ext.refl w1
  go_wp2
  go_loopw [5, 6] (fun v i wr => ∃ (k : Nat) (acc : Int), k ≤ subs.length ∧ i = .int .i64 k ∧ v = .int .i64 acc ∧ 1 ≤ acc ∧ acc ≤ 2 * m + 2 ∧ Hid (Min.min acc (m + 1) = Min.min (1 + nodesL (subs.take k)) (m + 1)) ∧ Ext w1 wr) (fun _ i _ => subs.length - (intOf i).toNat)
  case atStart => exact ⟨0, 1, Nat.zero_le _, rfl, rfl, by omega, by omega, HS, hx11⟩
  case round =>
    clear HS hx11
    obtain ⟨k, acc, hk, rfl, rfl, ha1, ha2, HA, hx⟩ := hrel
    have c5 := (hb.ext hx).cell 5
    have c5' : wr.cell? ⟨b, 5, none⟩ = some (.slice A subs.length c) := c5
    clear c5
    by_cases hlt : k < subs.length
    · by_cases hge : acc ≤ m
      · obtain ⟨g0, o0, sv, rfl, hat, hok⟩ := HN.out.get k hlt
        have hxw := hx1.trans hx
        replace hat := hat.ext hxw
        have IHk := Lib.hid (fun w' (hw' : Ext wr w') => IH.out subs[k] (List.getElem_mem hlt) sv w' (NdOk.ext (hxw.trans hw') _ _ hok))
        have hpos := nodesN_pos subs[k]
        have HM := Lib.hid (show nodesL (subs.take (k + 1)) = nodesL (subs.take k) + nodesN subs[k] by rw [take_snoc subs k hlt, nodesL_app, nodesL, nodesL]; omega)
        have HP := Lib.hid (nodesL_pos (subs.take k))
        clear IH HN HR hok
        generalize subs[k] = nk at *
        generalize nodesN nk = x at *
        have hr0 : 1 ≤ Min.min x (m + 1) ∧ Min.min x (m + 1) ≤ m + 1 := by omega
        have HX := Lib.hid (show ∀ y, y = Min.min x (m + 1) → Min.min (acc + y) (m + 1) = Min.min (1 + nodesL (subs.take (k + 1))) (m + 1) by
          intro y hy
          have e1 := HA.out
          have e2 := HM.out
          have e3 := HP.out
          omega)
        obtain ⟨hr1, hr2⟩ := hr0
        have HY := Lib.hid (rfl : Min.min x (m + 1) = Min.min x (m + 1))
        generalize hy : Min.min x (m + 1) = y at *
        have HYY := Lib.hid hy
        clear hy HY
        have d1 : (k : Int) < (subs.length : Int) := by omega
        go_wp2_with (first
          | (refine wpl_loadNd rfl _ rfl g0 (o0 + k * 10) nk.h sv rfl hat ?_)
          | (go_at_call 32; refine (IHk.out _ (Ext.refl _)).mono ?_; rintro e w6 ⟨rfl, hx6⟩))
        go_roundw
        case rel => exact ⟨k + 1, acc + y, by omega, by go_num, rfl, by omega, by omega, Lib.hid (HX.out y rfl), hx.trans hx6⟩
        case measure => simp [intOf]; omega
      · have hfin : Min.min res (m + 1) = m + 1 := by
          have e1 := HA.out
          have e2 := HR.out
          have e3 := nodesL_app (subs.take k) (subs.drop k)
          rw [List.take_append_drop] at e3
          have e4 := nodesL_pos (subs.drop k)
          omega
        have HF := Lib.hid hfin
        clear hfin IH HN HR HA
        have d1 : (k : Int) < (subs.length : Int) := by omega
        have d2 : m < acc := by omega
        have e5 := Lib.hid (min_ifm acc (m + 1))
        by_cases hq : m + 1 < acc
        all_goals
          go_wp2
          go_ret
          exact ⟨by rw [HF.out]; exact ret_int (by omega), hx1.trans hx⟩
    · have hkl : subs.take k = subs := List.take_of_length_le (by omega)
      have HF := Lib.hid (show Min.min res (m + 1) = Min.min acc (m + 1) by
        have e1 := HA.out
        rw [hkl] at e1
        rw [HR.out, e1])
      clear IH HN HR HA hkl
      have d1 : ¬ (k : Int) < (subs.length : Int) := by omega
      by_cases hq : m + 1 < acc
      all_goals
        go_wp2
        go_ret
        exact ⟨by rw [HF.out]; exact ret_int (by omega), hx1.trans hx⟩

set_option maxRecDepth 100000 in
set_option maxHeartbeats 4000000 in
theorem sizeT_any (n : Nd) (sv : Value) (w : World) (hn : NdOk w n sv) (hsm : smallN n) (hf : formB n = true) :
    Calls Tryd.prog 33 #[nodeV n.h sv] w fun r w' => r = .returned (.int .i64 (sizeN n)) ∧ Ext w w' := by
  have H1 := Lib.hid (fun W (hW : Ext w W) => (by have := form_any n sv W (hn.ext hW) hsm; rwa [hf] at this : Calls Tryd.prog 63 #[nodeV n.h sv] W fun r w' => r = .returned (.bool true) ∧ Ext W w'))
  have H2 := Lib.hid (fun W (hW : Ext w W) => size_any n sv W (hn.ext hW) hsm hf)
  clear hn hsm hf
  generalize sizeN n = sn at *
  generalize n.h = hd at *
  go_enter Tryd.func33, Tryd.ntmps33
  go_wp2_with (first
    | (refine wpl_boxNd rfl _ rfl hd _ rfl ?_; intro b w1 hb hx1 eb sb)
    | (refine wpl_loadNd rfl _ rfl b 0 hd _ rfl hb.nd ?_)
    | (go_at_call 63; refine (H1.out _ hx1).mono ?_; rintro e w2 ⟨rfl, hx2⟩)
    | (refine wpl_loadNd rfl _ rfl b 0 hd _ rfl (hb.ext hx2).nd ?_)
    | (go_at_call 64; refine (H2.out _ (hx1.trans hx2)).mono ?_; rintro e w3 ⟨rfl, hx3⟩))
  go_ret
  exact ⟨rfl, (hx1.trans hx2).trans hx3⟩

end Go.Proofs.YthddlhpndaffjaaDoor
