/- ExpandSizes as a walk. Condition: the tree lies in memory; the error values lie where they lie. -/
import Derived.Test.YthddlhpndaffjaaDoorELives
import Derived.Test.YthddlhpndaffjaaDoorEOwns
import Derived.Test.YthddlhpndaffjaaDoorNodes04
import Derived.Test.YthddlhpndaffjaaDoorSame
import Derived.Test.YthddlhpndaffjaaDoorEAid
namespace Go.Proofs.YthddlhpndaffjaaDoor
open Go Go.RowKit

theorem exp_chk {n : Nd} (hc : chkN n = 0) : chkN (expN n) = 0 := by
  obtain ⟨h1, h2, h3⟩ := chk_ok hc
  have f := form_exp n h1
  have p := plain_exp n h1
  have d := depth_exp n h1
  have s := size_nodes n h1
  have s2 := size_nodes _ f
  rw [exp_plain _ f p] at s2
  unfold chkN
  rw [f, if_neg (by decide), if_neg (by omega), if_neg (by omega)]

set_option maxRecDepth 100000 in
set_option maxHeartbeats 4000000 in
theorem expandSizes_walk (n : Nd) (sv : Value) (w : World) (A : Nat → Addr) (hn : NdOk w n sv) (hE : ErrsAt w A) :
    Calls Tryd.prog 8 #[nodeV n.h sv] w fun r w' => r = .returned (.bool true) ∧ Ext w w' := by
  have HL := Lib.hid (fun W (hW : Ext w W) => lives_any W A (hE.three.ext hW))
  have HF := Lib.hid (fun W (hW : Ext w W) => few_any n sv 3000 W (NdOk.ext hW _ _ hn) (by omega) (by omega))
  by_cases hf : 0 ≤ leftN n 3000
  · have hfd : decide (0 ≤ leftN n 3000) = true := by simpa using hf
    rw [hfd] at HF
    have hsm := small_left n 3000 (by omega) hf
    have HCK := Lib.hid (fun W (hW : Ext w W) => check_any n sv W A 3000 (hn.ext hW) (hE.three.ext hW) (by omega) hf)
    by_cases hc : chkN n = 0
    · obtain ⟨h1, h2, h3⟩ := chk_ok hc
      have hxc := exp_chk hc
      have hxn := exp_few hc
      have hxp := plain_exp n h1
      have hxe := exp_plain _ (form_exp n h1) hxp
      have hxs := small_exp n hsm h1
      have hxd := depth_exp n h1
      have hsz : sizeN n = nodesN (expN n) := by rw [size_nodes n h1]; omega
      have hxf : 0 ≤ leftN (expN n) 3000 := left_few (by omega)
      have HO := Lib.hid (fun W (hW : Ext w W) => expand_ok n sv W A 3000 (hn.ext hW) (hE.three.ext hW) (by omega) hf hc)
      have HO2 := Lib.hid (fun W sv' (hW : Ext w W) (h : NdOk W (expN n) sv') => (by
        have := expand_ok (expN n) sv' W A 3000 h (hE.three.ext hW) (by omega) hxf hxc
        rwa [hxe] at this : Calls Tryd.prog 16 #[nodeV (expN n).h sv'] W fun r w' => ∃ s, r = .returned (.tuple #[nodeV (expN n).h s, .nilIface]) ∧ NdNew W.heap.size w' (expN n) s ∧ Ext W w'))
      have H1 := Lib.hid (fun W sv' (hW : Ext w W) (h : NdOk W (expN n) sv') => (by
        have := check_any (expN n) sv' W A 3000 h (hE.three.ext hW) (by omega) hxf
        rwa [hxc] at this : Calls Tryd.prog 31 #[nodeV (expN n).h sv'] W fun r w' => r = .returned .nilIface ∧ Ext W w'))
      have H2 := Lib.hid (fun W sv' (hW : Ext w W) (h : NdOk W (expN n) sv') => (by
        have := plainP_any (expN n) sv' W A 3000 h (hE.three.ext hW) (by omega) hxf
        rwa [hxc, hxp] at this : Calls Tryd.prog 22 #[nodeV (expN n).h sv'] W fun r w' => r = .returned (.bool true) ∧ Ext W w'))
      have H3 := Lib.hid (fun W sv' (h : NdOk W (expN n) sv') => (by
        have := nodes04_any (expN n) sv' 3000 W h hxs (by omega) (by omega)
        rwa [show Min.min (nodesN (expN n)) (3000 + 1) = nodesN (expN n) by omega] at this : Calls Tryd.prog 32 #[nodeV (expN n).h sv', .int .i64 3000] W fun r w' => r = .returned (.int .i64 (nodesN (expN n))) ∧ Ext W w'))
      have H4 := Lib.hid (fun W (hW : Ext w W) => (by
        have := sizeT_any n sv W (hn.ext hW) hsm h1
        rwa [hsz] at this : Calls Tryd.prog 33 #[nodeV n.h sv] W fun r w' => r = .returned (.int .i64 (nodesN (expN n))) ∧ Ext W w'))
      have H5 := Lib.hid (fun W sv' (h : NdOk W (expN n) sv') => depth_any (expN n) sv' W 3000 h (by omega) hxf)
      have H6 := Lib.hid (fun W (hW : Ext w W) => depth_any n sv W 3000 (hn.ext hW) (by omega) hf)
      have H7 := Lib.hid (fun W a b (ha : NdOk W (expN n) a) (hb : NdOk W (expN n) b) => (by
        have := same_any _ a _ b W ha hb hxs
        rwa [sameN_refl] at this : Calls Tryd.prog 35 #[nodeV (expN n).h a, nodeV (expN n).h b] W fun r w' => r = .returned (.bool true) ∧ Ext W w'))
      have hdd : decide (depthN (expN n) ≤ depthN n) = true := by simpa using hxd
      clear hE hn hfd hf hsm hc h1 h2 h3 hxc hxn hxp hxe hxs hsz hxf HCK hxd
      generalize expN n = x at *
      generalize nodesN x = nx at *
      generalize depthN x = dx at *
      generalize depthN n = dn at *
      generalize leftN n 3000 = lf at *
      generalize n.h = hd at *
      obtain ⟨xh, hxh⟩ : ∃ xh, x.h = xh := ⟨_, rfl⟩
      rw [hxh] at HO HO2 H1 H2 H3 H5 H7
      clear hxh
      go_enter Tryd.func8, Tryd.ntmps8
      go_upto_region 6 with (first
        | (refine wpl_boxNd rfl _ rfl hd _ rfl ?_; intro b w1 hb hx1 eb sb)
        | (go_at_call 14; refine (HL.out _ hx1).mono ?_; rintro e w2 ⟨rfl, hx2⟩)
        | (refine wpl_loadNd rfl _ rfl b 0 hd _ rfl (hb.ext hx2).nd ?_)
        | (go_at_call 15; refine (HF.out _ (hx1.trans hx2)).mono ?_; rintro e w3 ⟨rfl, hx3⟩)
        | (refine wpl_loadNd rfl _ rfl b 0 hd _ rfl (hb.ext (hx2.trans hx3)).nd ?_)
        | (go_at_call 16; refine (HO.out _ ((hx1.trans hx2).trans hx3)).mono ?_; rintro e w4 ⟨sv4, rfl, hn4, hx4⟩)
        | (refine wpl_allocNd rfl rfl ?_; intro z w5 hz hx5 ez sz)
        | (refine wpl_storeNd rfl _ _ rfl rfl z xh _ sv4 _ rfl rfl hn4.ok.sl hz ?_; intro w6 hz6 hk6; have hx6 := hx5.keep1 hk6 ez))
      have hb6 := hb.ext (((hx2.trans hx3).trans hx4).trans hx6)
      have hw6 := (((hx1.trans hx2).trans hx3).trans hx4).trans hx6
      have hn6 := hn4.ok.ext hx6
      clear HL HF HO hb hx1 hx2 hx3 hx4 hx5 hx6 hk6 ez sz hz eb sb hn4
      try simp only [Act.put, List.setIfInBounds_toArray, List.set_cons_succ, List.set_cons_zero]
      go_upto_region 9 with (first
        | (refine wpl_loadNd rfl _ rfl z 0 xh _ rfl hz6.nd ?_)
        | (go_at_call 16; refine (HO2.out _ sv4 hw6 hn6).mono ?_; rintro e w7 ⟨sv7, rfl, hn7, hx7⟩)
        | (refine wpl_allocNd rfl rfl ?_; intro z2 w8 hz8 hx8 ez sz)
        | (refine wpl_storeNd rfl _ _ rfl rfl z2 xh _ sv7 _ rfl rfl hn7.ok.sl hz8 ?_; intro w9 hz9 hk9; have hx9 := hx8.keep1 hk9 ez))
      have hx69 := hx7.trans hx9
      have hn9 := hn7.ok.ext hx9
      have hn69 := hn6.ext hx69
      have hb9 := hb6.ext hx69
      have hzz := hz6.ext hx69
      have hw9 := hw6.trans hx69
      clear hx7 hx8 hx9 hk9 ez sz hz8 hn7 hn6 hb6 hz6 hw6 hx69 HO2
      try simp only [Act.put, List.setIfInBounds_toArray, List.set_cons_succ, List.set_cons_zero]
      refine wp_region_plus (by kernel_rfl) (by kernel_rfl) ?_
      repeat (first
        | (refine wpQuiet_loadNd _ rfl rfl z 0 xh _ rfl hzz.nd ?_; simp only [Act.put, List.setIfInBounds_toArray, List.set_cons_succ, List.set_cons_zero])
        | (refine wpQuiet_loadNd _ rfl rfl z2 0 xh _ rfl hz9.nd ?_; simp only [Act.put, List.setIfInBounds_toArray, List.set_cons_succ, List.set_cons_zero])
        | (refine wpQuiet_loadNd _ rfl rfl b 0 hd _ rfl hb9.nd ?_; simp only [Act.put, List.setIfInBounds_toArray, List.set_cons_succ, List.set_cons_zero])
        | (go_big_quiet_step (first
          | (go_at_call 31; exact Calls.plus_of (H1.out _ _ (hw9.trans (plus_ext _ _)) (hn69.ext (plus_ext _ _))))
          | (go_at_call 22; exact Calls.plus_of (H2.out _ _ (hw9.trans (plus_ext _ _)) (hn69.ext (plus_ext _ _))))
          | (go_at_call 32; exact Calls.plus_of (H3.out _ _ (hn69.ext (plus_ext _ _))))
          | (go_at_call 33; exact Calls.plus_of (H4.out _ (hw9.trans (plus_ext _ _))))
          | (go_at_call 34; with_reducible exact Calls.plus_of (H5.out _ _ (hn69.ext (plus_ext _ _))))
          | (go_at_call 34; with_reducible exact Calls.plus_of (H6.out _ (hw9.trans (plus_ext _ _))))
          | (go_at_call 35; exact Calls.plus_of (H7.out _ _ _ (hn69.ext (plus_ext _ _)) (hn9.ext (plus_ext _ _)))))))
      refine wpQuiet_nil ?_
      intro y
      have hy := hw9.trans (plus_ext _ y)
      go_wp2
      go_ret
      exact ⟨rfl, hy⟩
    · have HB := Lib.hid (fun W (hW : Ext w W) => expand_bad n sv W A 3000 (hn.ext hW) (hE.three.ext hW) (by omega) hf hc)
      have HCK2 := Lib.hid (fun W (hW : Ext w W) => (by
        have := HCK.out W hW
        rwa [errR, if_neg hc] at this : Calls Tryd.prog 31 #[nodeV n.h sv] W fun r w' => r = .returned (errV (A (chkN n - 1))) ∧ Ext W w'))
      have HNum := Lib.hid (fun W (hW : Ext w W) => (by
        have := num_errR A (chkN n) W (chk_le n) (hE.ext hW)
        rwa [errR, if_neg hc] at this : Calls Tryd.prog 20 #[errV (A (chkN n - 1))] W fun r w' => r = .returned (.int .i64 (chkN n)) ∧ Ext W w'))
      clear hE hn hfd hf hsm HCK
      generalize chkN n = ck at *
      generalize n.h = hd at *
      generalize A (ck - 1) = ad at *
      unfold errV at *
      go_enter Tryd.func8, Tryd.ntmps8
      go_upto_region 7 with (first
        | (refine wpl_boxNd rfl _ rfl hd _ rfl ?_; intro b w1 hb hx1 eb sb)
        | (go_at_call 14; refine (HL.out _ hx1).mono ?_; rintro e w2 ⟨rfl, hx2⟩)
        | (refine wpl_loadNd rfl _ rfl b 0 hd _ rfl (hb.ext hx2).nd ?_)
        | (go_at_call 15; refine (HF.out _ (hx1.trans hx2)).mono ?_; rintro e w3 ⟨rfl, hx3⟩)
        | (refine wpl_loadNd rfl _ rfl b 0 hd _ rfl (hb.ext (hx2.trans hx3)).nd ?_)
        | (go_at_call 16; refine (HB.out _ ((hx1.trans hx2).trans hx3)).mono ?_; rintro e w4 ⟨sv4, rfl, hn4, hx4⟩)
        | (refine wpl_allocNd rfl rfl ?_; intro z w5 hz hx5 ez sz)
        | (refine wpl_storeNd rfl _ _ rfl rfl z (hdV 0) _ sv4 _ rfl rfl hn4.ok.sl hz ?_; intro w6 hz6 hk6; have hx6 := hx5.keep1 hk6 ez))
      have hb6 := hb.ext (((hx2.trans hx3).trans hx4).trans hx6)
      have hw6 := (((hx1.trans hx2).trans hx3).trans hx4).trans hx6
      clear HL HF HB hb hx1 hx2 hx3 hx4 hx5 hx6 hk6 ez sz hz eb sb hn4 hz6 hc
      try simp only [Act.put, List.setIfInBounds_toArray, List.set_cons_succ, List.set_cons_zero]
      refine wp_region_plus (by kernel_rfl) (by kernel_rfl) ?_
      repeat (first
        | (refine wpQuiet_loadNd _ rfl rfl b 0 hd _ rfl hb6.nd ?_; simp only [Act.put, List.setIfInBounds_toArray, List.set_cons_succ, List.set_cons_zero])
        | (go_big_quiet_step (first
          | (go_at_call 31; exact Calls.plus_of (HCK2.out _ (hw6.trans (plus_ext _ _))))
          | (go_at_call 20; exact Calls.plus_of (HNum.out _ (hw6.trans (plus_ext _ _)))))))
      refine wpQuiet_nil ?_
      intro y
      have hy := hw6.trans (plus_ext _ y)
      go_wp2
      go_ret
      exact ⟨rfl, hy⟩
  · have hd0 : decide (0 ≤ leftN n 3000) = false := by simpa using hf
    rw [hd0] at HF
    clear hE hn hd0 hf
    generalize n.h = hd at *
    go_enter Tryd.func8, Tryd.ntmps8
    go_upto_region 1 with (refine wpl_boxNd rfl _ rfl hd _ rfl ?_; intro b w1 hb hx1 eb sb)
    go_wp2_with (first
      | (go_at_call 14; refine (HL.out _ hx1).mono ?_; rintro e w2 ⟨rfl, hx2⟩)
      | (refine wpl_loadNd rfl _ rfl b 0 hd _ rfl (hb.ext hx2).nd ?_)
      | (go_at_call 15; refine (HF.out _ (hx1.trans hx2)).mono ?_; rintro e w3 ⟨rfl, hx3⟩))
    go_ret
    exact ⟨rfl, (hx1.trans hx2).trans hx3⟩

end Go.Proofs.YthddlhpndaffjaaDoor
