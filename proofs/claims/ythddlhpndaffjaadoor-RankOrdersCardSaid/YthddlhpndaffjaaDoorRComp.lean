/- RankCompares and RankOrders as walks. Condition: the parses lie in memory; the error values lie where they lie. -/
import Derived.Test.YthddlhpndaffjaaDoorRLives
import Derived.Test.YthddlhpndaffjaaDoorPsO
namespace Go.Proofs.YthddlhpndaffjaaDoor
open Go Go.RowKit

set_option maxRecDepth 100000 in
set_option maxHeartbeats 4000000 in
theorem rankCompares_walk (a b : Ps) (sva svb : Value) (w : World) (A : Nat → Addr) (ha : PsOk w a sva) (hb : PsOk w b svb) (hE : Err3 w A) :
    Calls Tryd.prog 11 #[psV a.d sva, psV b.d svb] w fun r w' => r = .returned (.bool true) ∧ Ext w w' := by
  have HL := Lib.hid (fun W (hW : Ext w W) => rlives_any W A (hE.ext hW))
  have HFa := Lib.hid (fun W (hW : Ext w W) => pfew_any a sva 3000 W (ha.ext hW) (by omega) (by omega))
  have HFb := Lib.hid (fun W (hW : Ext w W) => pfew_any b svb 3000 W (hb.ext hW) (by omega) (by omega))
  have HC := Lib.hid (fun W (hW : Ext w W) (h : 0 ≤ pleftN a 3000) => compare_any a sva b svb W (ha.ext hW) (hb.ext hW) (smallP_left a 3000 (by omega) h))
  have HD := Lib.hid (fun W (hW : Ext w W) (h : 0 ≤ pleftN a 3000) => rcompare_any a sva b svb W (ha.ext hW) (hb.ext hW) (smallP_left a 3000 (by omega) h))
  have HS := Lib.hid (fun W (hW : Ext w W) (h : 0 ≤ pleftN a 3000) => sameParse_any a sva b svb W (ha.ext hW) (hb.ext hW) (smallP_left a 3000 (by omega) h))
  have HE := Lib.hid (cmpN_same a b)
  clear ha hb hE
  generalize pleftN a 3000 = la at *
  generalize pleftN b 3000 = lb at *
  generalize cmpN a b = c at *
  generalize samePs a b = sp at *
  generalize a.d = da at *
  generalize b.d = db at *
  go_enter Tryd.func11, Tryd.ntmps11
  go_upto_region 1 with (first
    | (refine wpl_boxPs rfl _ rfl da _ rfl ?_; intro x w1 hb hx1 ex sx)
    | (refine wpl_boxPs rfl _ rfl db _ rfl ?_; intro y w2 hc hx2 ey sy))
  replace hb := hb.ext hx2
  replace hx1 := hx1.trans hx2
  clear hx2 ex sx ey sy
  by_cases h1 : 0 ≤ la
  case neg =>
    rw [decide_eq_false h1] at HFa
    clear HFb HC HD HS h1
    go_wp2_with (first
      | (go_at_call 36; refine (HL.out _ hx1).mono ?_; rintro e w3 ⟨rfl, hx3⟩)
      | (refine wpl_loadPs rfl _ rfl x 0 da _ rfl (hb.ext hx3).ps ?_)
      | (go_at_call 37; refine (HFa.out _ (hx1.trans hx3)).mono ?_; rintro e w4 ⟨rfl, hx4⟩))
    go_ret
    exact ⟨rfl, (hx1.trans hx3).trans hx4⟩
  rw [decide_eq_true h1] at HFa
  by_cases h2 : 0 ≤ lb
  case neg =>
    rw [decide_eq_false h2] at HFb
    clear HC HD HS h1 h2
    go_wp2_with (first
      | (go_at_call 36; refine (HL.out _ hx1).mono ?_; rintro e w3 ⟨rfl, hx3⟩)
      | (refine wpl_loadPs rfl _ rfl x 0 da _ rfl (hb.ext hx3).ps ?_)
      | (go_at_call 37; ((with_reducible refine (HFa.out _ (hx1.trans hx3)).mono ?_); rintro e w4 ⟨rfl, hx4⟩))
      | (refine wpl_loadPsG _ rfl rfl y 0 db _ rfl ((hc.ext hx3).ext hx4).ps ?_)
      | (go_at_call 37; ((with_reducible refine (HFb.out _ ((hx1.trans hx3).trans hx4)).mono ?_); rintro e w5 ⟨rfl, hx5⟩)))
    go_ret
    exact ⟨rfl, ((hx1.trans hx3).trans hx4).trans hx5⟩
  rw [decide_eq_true h2] at HFb
  have HC2 := Lib.hid (fun W hW => HC.out W hW h1)
  have HD2 := Lib.hid (fun W hW => HD.out W hW h1)
  have HS2 := Lib.hid (fun W hW => HS.out W hW h1)
  clear HC HD HS h1 h2
  go_upto_region 5 with (first
    | (go_at_call 36; refine (HL.out _ hx1).mono ?_; rintro e w3 ⟨rfl, hx3⟩)
    | (refine wpl_loadPs rfl _ rfl x 0 da _ rfl (hb.ext hx3).ps ?_)
    | (go_at_call 37; ((with_reducible refine (HFa.out _ (hx1.trans hx3)).mono ?_); rintro e w4 ⟨rfl, hx4⟩))
    | (refine wpl_loadPsG _ rfl rfl y 0 db _ rfl ((hc.ext hx3).ext hx4).ps ?_)
    | (go_at_call 37; ((with_reducible refine (HFb.out _ ((hx1.trans hx3).trans hx4)).mono ?_); rintro e w5 ⟨rfl, hx5⟩)))
  have HXA := Lib.hid (((hb.ext hx3).ext hx4).ext hx5).ps
  have HYA := Lib.hid (((hc.ext hx3).ext hx4).ext hx5).ps
  have hx := ((hx1.trans hx3).trans hx4).trans hx5
  clear hb hc hx1 hx3 hx4 hx5 HL HFa HFb
  have e1 : (c == c) = true := by simp
  have e2 : (c == 0) = sp := by rw [HE.out, Bool.eq_iff_iff]; simp
  clear HE
  refine wp_region_plus (by kernel_rfl) (by kernel_rfl) ?_
  repeat (first
    | (go_big_quiet_want; refine quiet_loadPs _ rfl x 0 da _ rfl HXA.out ?_; simp only [Act.put, List.setIfInBounds_toArray, List.set_cons_succ, List.set_cons_zero]; go_big_quiet_on)
    | (go_big_quiet_want; refine quiet_loadPs _ rfl y 0 db _ rfl HYA.out ?_; simp only [Act.put, List.setIfInBounds_toArray, List.set_cons_succ, List.set_cons_zero]; go_big_quiet_on)
    | (go_big_quiet_step ((first
      | (go_at_call 44; exact Calls.plus_of (HC2.out _ (hx.trans (plus_ext _ _))))
      | (go_at_call 45; exact Calls.plus_of (HD2.out _ (hx.trans (plus_ext _ _))))
      | (go_at_call 46; exact Calls.plus_of (HS2.out _ (hx.trans (plus_ext _ _))))))))
  refine wpQuiet_nil ?_
  intro v
  go_wp2
  go_ret
  exact ⟨by cases sp <;> rfl, hx.trans (plus_ext _ v)⟩

end Go.Proofs.YthddlhpndaffjaaDoor
