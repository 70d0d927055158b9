/- RankOrders as a walk. Condition: the parses lie in memory; the error values lie where they lie. -/
import Derived.Test.YthddlhpndaffjaaDoorRComp
namespace Go.Proofs.YthddlhpndaffjaaDoor
open Go Go.RowKit

theorem three_of {x : Int} (h : -1 ≤ x ∧ x ≤ 1) : x = -1 ∨ x = 0 ∨ x = 1 := by omega
set_option maxRecDepth 100000 in
set_option maxHeartbeats 8000000 in
theorem rankOrders_walk (a b c : Ps) (sva svb svc : Value) (w : World) (A : Nat → Addr) (ha : PsOk w a sva) (hb : PsOk w b svb) (hc : PsOk w c svc) (hE : Err3 w A) :
    Calls Tryd.prog 12 #[psV a.d sva, psV b.d svb, psV c.d svc] w fun r w' => r = .returned (.bool true) ∧ Ext w w' := by
  have HL := Lib.hid (fun W (hW : Ext w W) => rlives_any W A (hE.ext hW))
  have HFa := Lib.hid (fun W (hW : Ext w W) => pfew_any a sva 3000 W (ha.ext hW) (by omega) (by omega))
  have HFb := Lib.hid (fun W (hW : Ext w W) => pfew_any b svb 3000 W (hb.ext hW) (by omega) (by omega))
  have HFc := Lib.hid (fun W (hW : Ext w W) => pfew_any c svc 3000 W (hc.ext hW) (by omega) (by omega))
  have HAB := Lib.hid (fun W (hW : Ext w W) (h : 0 ≤ pleftN a 3000) => compare_any a sva b svb W (ha.ext hW) (hb.ext hW) (smallP_left a 3000 (by omega) h))
  have HBC := Lib.hid (fun W (hW : Ext w W) (h : 0 ≤ pleftN b 3000) => compare_any b svb c svc W (hb.ext hW) (hc.ext hW) (smallP_left b 3000 (by omega) h))
  have HAC := Lib.hid (fun W (hW : Ext w W) (h : 0 ≤ pleftN a 3000) => compare_any a sva c svc W (ha.ext hW) (hc.ext hW) (smallP_left a 3000 (by omega) h))
  have HBA := Lib.hid (fun W (hW : Ext w W) (h : 0 ≤ pleftN b 3000) => compare_any b svb a sva W (hb.ext hW) (ha.ext hW) (smallP_left b 3000 (by omega) h))
  have HAA := Lib.hid (fun W (hW : Ext w W) (h : 0 ≤ pleftN a 3000) => compare_any a sva a sva W (ha.ext hW) (ha.ext hW) (smallP_left a 3000 (by omega) h))
  have hba := cmpN_anti a b
  have haa := cmpN_refl a
  have h1 := three_of (cmpN_rng a b)
  have h2 := three_of (cmpN_rng b c)
  have h3 := three_of (cmpN_rng a c)
  have h4 : cmpN a b ≤ 0 → cmpN b c ≤ 0 → cmpN a c ≤ 0 := cmpN_le
  have h5 : cmpN a b < 0 → cmpN b c ≤ 0 → cmpN a c < 0 := cmpN_lt
  have h6 : cmpN a b = 0 → cmpN b c = cmpN a c := fun h => by rw [cmpN_eq h]
  rw [hba] at HBA
  rw [haa] at HAA
  clear ha hb hc hE hba haa
  generalize pleftN a 3000 = la at *
  generalize pleftN b 3000 = lb at *
  generalize pleftN c 3000 = lc at *
  generalize cmpN a b = ab at *
  generalize cmpN b c = bc at *
  generalize cmpN a c = ac at *
  generalize a.d = da at *
  generalize b.d = db at *
  generalize c.d = dc at *
  have HT : Hid ((ab = -1 ∨ ab = 0 ∨ ab = 1) ∧ (bc = -1 ∨ bc = 0 ∨ bc = 1) ∧ (ac = -1 ∨ ac = 0 ∨ ac = 1) ∧ (ab ≤ 0 → bc ≤ 0 → ac ≤ 0) ∧ (ab < 0 → bc ≤ 0 → ac < 0) ∧ (ab = 0 → bc = ac)) := Lib.hid ⟨h1, h2, h3, h4, h5, h6⟩
  clear h1 h2 h3 h4 h5 h6
  go_enter Tryd.func12, Tryd.ntmps12
  go_upto_region 1 with (first
    | (refine wpl_boxPs rfl _ rfl da _ rfl ?_; intro x w1 hb hx1 ex sx)
    | (refine wpl_boxPs rfl _ rfl db _ rfl ?_; intro y w2 hc hx2 ey sy)
    | (refine wpl_boxPs rfl _ rfl dc _ rfl ?_; intro z w3 hd hx3 ez sz))
  replace hb := (hb.ext hx2).ext hx3
  replace hc := hc.ext hx3
  replace hx1 := (hx1.trans hx2).trans hx3
  clear hx2 hx3 ex sx ey sy ez sz
  by_cases h1 : 0 ≤ la
  case neg =>
    rw [decide_eq_false h1] at HFa
    clear HFb HFc HAB HBC HAC HBA HAA HT h1
    go_wp2_with (first
      | (go_at_call 36; refine (HL.out _ hx1).mono ?_; rintro e w3 ⟨rfl, hx3⟩)
      | (refine wpl_loadPs rfl _ rfl x 0 da _ rfl (hb.ext hx3).ps ?_)
      | (go_at_call 37; refine (HFa.out _ (hx1.trans hx3)).mono ?_; rintro e w4 ⟨rfl, hx4⟩))
    go_ret
    exact ⟨rfl, (hx1.trans hx3).trans hx4⟩
  rw [decide_eq_true h1] at HFa
  by_cases h2 : 0 ≤ lb
  case neg =>
    rw [decide_eq_false h2] at HFb
    clear HFc HAB HBC HAC HBA HAA HT h1 h2
    go_wp2_with (first
      | (go_at_call 36; refine (HL.out _ hx1).mono ?_; rintro e w3 ⟨rfl, hx3⟩)
      | (refine wpl_loadPs rfl _ rfl x 0 da _ rfl (hb.ext hx3).ps ?_)
      | (go_at_call 37; ((with_reducible refine (HFa.out _ (hx1.trans hx3)).mono ?_); rintro e w4 ⟨rfl, hx4⟩))
      | (refine wpl_loadPsG _ rfl rfl y 0 db _ rfl ((hc.ext hx3).ext hx4).ps ?_)
      | (go_at_call 37; ((with_reducible refine (HFb.out _ ((hx1.trans hx3).trans hx4)).mono ?_); rintro e w5 ⟨rfl, hx5⟩)))
    go_ret
    exact ⟨rfl, ((hx1.trans hx3).trans hx4).trans hx5⟩
  rw [decide_eq_true h2] at HFb
  by_cases h3 : 0 ≤ lc
  case neg =>
    rw [decide_eq_false h3] at HFc
    clear HAB HBC HAC HBA HAA HT h1 h2 h3
    go_wp2_with (first
      | (go_at_call 36; refine (HL.out _ hx1).mono ?_; rintro e w3 ⟨rfl, hx3⟩)
      | (refine wpl_loadPs rfl _ rfl x 0 da _ rfl (hb.ext hx3).ps ?_)
      | (go_at_call 37; ((with_reducible refine (HFa.out _ (hx1.trans hx3)).mono ?_); rintro e w4 ⟨rfl, hx4⟩))
      | (refine wpl_loadPsG _ rfl rfl y 0 db _ rfl ((hc.ext hx3).ext hx4).ps ?_)
      | (go_at_call 37; ((with_reducible refine (HFb.out _ ((hx1.trans hx3).trans hx4)).mono ?_); rintro e w5 ⟨rfl, hx5⟩))
      | (refine wpl_loadPsG _ rfl rfl z 0 dc _ rfl (((hd.ext hx3).ext hx4).ext hx5).ps ?_)
      | (go_at_call 37; ((with_reducible refine (HFc.out _ (((hx1.trans hx3).trans hx4).trans hx5)).mono ?_); rintro e w6 ⟨rfl, hx6⟩)))
    go_ret
    exact ⟨rfl, (((hx1.trans hx3).trans hx4).trans hx5).trans hx6⟩
  rw [decide_eq_true h3] at HFc
  have H1 := Lib.hid (fun W hW => HAB.out W hW h1)
  have H2 := Lib.hid (fun W hW => HBC.out W hW h2)
  have H3 := Lib.hid (fun W hW => HAC.out W hW h1)
  have H4 := Lib.hid (fun W hW => HBA.out W hW h2)
  have H5 := Lib.hid (fun W hW => HAA.out W hW h1)
  clear HAB HBC HAC HBA HAA h1 h2 h3
  go_upto_region 5 with (first
    | (go_at_call 36; refine (HL.out _ hx1).mono ?_; rintro e w3 ⟨rfl, hx3⟩)
    | (refine wpl_loadPs rfl _ rfl x 0 da _ rfl (hb.ext hx3).ps ?_)
    | (go_at_call 37; ((with_reducible refine (HFa.out _ (hx1.trans hx3)).mono ?_); rintro e w4 ⟨rfl, hx4⟩))
    | (refine wpl_loadPsG _ rfl rfl y 0 db _ rfl ((hc.ext hx3).ext hx4).ps ?_)
    | (go_at_call 37; ((with_reducible refine (HFb.out _ ((hx1.trans hx3).trans hx4)).mono ?_); rintro e w5 ⟨rfl, hx5⟩))
    | (refine wpl_loadPsG _ rfl rfl z 0 dc _ rfl (((hd.ext hx3).ext hx4).ext hx5).ps ?_)
    | (go_at_call 37; ((with_reducible refine (HFc.out _ (((hx1.trans hx3).trans hx4).trans hx5)).mono ?_); rintro e w6 ⟨rfl, hx6⟩)))
  have HXA := Lib.hid ((((hb.ext hx3).ext hx4).ext hx5).ext hx6).ps
  have HYA := Lib.hid ((((hc.ext hx3).ext hx4).ext hx5).ext hx6).ps
  have HZA := Lib.hid ((((hd.ext hx3).ext hx4).ext hx5).ext hx6).ps
  have hx := (((hx1.trans hx3).trans hx4).trans hx5).trans hx6
  clear hb hc hd hx1 hx3 hx4 hx5 hx6 HL HFa HFb HFc
  refine wp_region_plus (by kernel_rfl) (by kernel_rfl) ?_
  repeat (first
    | (go_big_quiet_want; refine quiet_loadPs _ rfl x 0 da _ rfl HXA.out ?_; simp only [Act.put, List.setIfInBounds_toArray, List.set_cons_succ, List.set_cons_zero]; go_big_quiet_on)
    | (go_big_quiet_want; refine quiet_loadPs _ rfl y 0 db _ rfl HYA.out ?_; simp only [Act.put, List.setIfInBounds_toArray, List.set_cons_succ, List.set_cons_zero]; go_big_quiet_on)
    | (go_big_quiet_want; refine quiet_loadPs _ rfl z 0 dc _ rfl HZA.out ?_; simp only [Act.put, List.setIfInBounds_toArray, List.set_cons_succ, List.set_cons_zero]; go_big_quiet_on)
    | (go_big_quiet_step ((first
      | (go_at_call 44; with_reducible exact Calls.plus_of (H1.out _ (hx.trans (plus_ext _ _))))
      | (go_at_call 44; with_reducible exact Calls.plus_of (H2.out _ (hx.trans (plus_ext _ _))))
      | (go_at_call 44; with_reducible exact Calls.plus_of (H3.out _ (hx.trans (plus_ext _ _))))))))
  refine wpQuiet_nil ?_
  intro v
  replace hx := hx.trans (plus_ext _ v)
  have hXP := HXA.out.plus v
  have hYP := HYA.out.plus v
  generalize plus _ v = w9 at *
  clear H1 H2 H3 HXA HYA HZA
  have f1 : IntKind.i64.wrap ab = ab := by rw [IntKind.wrap_i64]; have := HT.out.1; omega
  obtain ⟨nab, HNAB⟩ : ∃ nab, Hid (nab = -ab) := ⟨_, Lib.hid rfl⟩
  rw [← HNAB.out] at H4
  have f5 : IntKind.i64.wrap (-nab) = ab := by rw [HNAB.out, IntKind.wrap_i64]; have := HT.out.1; omega
  have f2 : (ab != ab) = false := by simp
  have f3 : decide (ab < -1) = false := by rw [decide_eq_false_iff_not]; have := HT.out.1; omega
  have f4 : decide (1 < ab) = false := by rw [decide_eq_false_iff_not]; have := HT.out.1; omega
  go_upto_region 8 with (first
    | (refine wpl_loadPs rfl _ rfl x 0 da _ rfl hXP ?_)
    | (refine wpl_loadPs rfl _ rfl y 0 db _ rfl hYP ?_)
    | (go_at_call 44; ((with_reducible refine (H4.out _ hx).mono ?_); rintro e w10 ⟨rfl, hx10⟩; have hx20 := hx.trans hx10))
    | (refine wpl_loadPsG _ rfl rfl x 0 da _ rfl (hXP.ext hx10) ?_)
    | (go_at_call 44; ((with_reducible refine (H5.out _ hx20).mono ?_); rintro e w11 ⟨rfl, hx11⟩)))
  have hxf := hx20.trans hx11
  clear f1 f2 f3 f4 f5 H4 H5 hXP hYP hx hx10 hx20 hx11
  obtain ⟨h1, h2, h3, h4, h5, h6⟩ := HT.out
  clear HT
  have hcs : 0 < ab ∨ (ab = 0 ∧ bc ≤ 0) ∨ (ab = 0 ∧ 0 < bc) ∨ (ab < 0 ∧ bc ≤ 0) ∨ (ab < 0 ∧ 0 < bc) := by omega
  rcases hcs with t1 | ⟨t1, t2⟩ | ⟨t1, t2⟩ | ⟨t1, t2⟩ | ⟨t1, t2⟩
  · have f1 : decide (ab ≤ 0) = false := by rw [decide_eq_false_iff_not]; omega
    have f2 : decide (ab < 0) = false := by rw [decide_eq_false_iff_not]; omega
    have f3 : (ab != 0) = true := by rw [bne_iff_ne]; omega
    clear h1 h2 h3 h4 h5 h6
    go_wp2
    go_ret
    exact ⟨rfl, hxf⟩
  · have f0 : (bc == ac) = true := by rw [beq_iff_eq]; exact h6 t1
    subst t1
    have f1 : decide (bc ≤ 0) = true := decide_eq_true t2
    have f2 : decide (0 < ac) = false := by rw [decide_eq_false_iff_not]; omega
    clear h1 h2 h3 h4 h5 h6
    go_wp2
    go_ret
    exact ⟨rfl, hxf⟩
  · have f0 : (bc == ac) = true := by rw [beq_iff_eq]; exact h6 t1
    subst t1
    have f1 : decide (bc ≤ 0) = false := by rw [decide_eq_false_iff_not]; omega
    clear h1 h2 h3 h4 h5 h6
    go_wp2
    go_ret
    exact ⟨rfl, hxf⟩
  · have f1 : decide (ab ≤ 0) = true := by rw [decide_eq_true_eq]; omega
    have f2 : decide (ab < 0) = true := by rw [decide_eq_true_eq]; omega
    have f3 : (ab != 0) = true := by rw [bne_iff_ne]; omega
    have f4 : decide (bc ≤ 0) = true := decide_eq_true t2
    have f5 : decide (0 < ac) = false := by rw [decide_eq_false_iff_not]; omega
    have f6 : decide (0 ≤ ac) = false := by rw [decide_eq_false_iff_not]; omega
    clear h1 h2 h3 h4 h5 h6
    go_wp2
    go_ret
    exact ⟨rfl, hxf⟩
  · have f1 : decide (ab ≤ 0) = true := by rw [decide_eq_true_eq]; omega
    have f2 : decide (ab < 0) = true := by rw [decide_eq_true_eq]; omega
    have f3 : (ab != 0) = true := by rw [bne_iff_ne]; omega
    have f4 : decide (bc ≤ 0) = false := by rw [decide_eq_false_iff_not]; omega
    clear h1 h2 h3 h4 h5 h6
    go_wp2
    go_ret
    exact ⟨rfl, hxf⟩

end Go.Proofs.YthddlhpndaffjaaDoor
