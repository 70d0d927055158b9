/- The fixed facts of layer 14's statements as a contract. Condition: the error values lie where they lie. -/
import Derived.Test.YthddlhpndaffjaaDoorExpandC
import Derived.Test.YthddlhpndaffjaaDoorText
namespace Go.Proofs.YthddlhpndaffjaaDoor
open Go Go.RowKit

def exR : Nd := .mk ⟨8, noS, 0, 2, -1, false⟩ [leafN 97]
def exX : Nd := .mk (hdV 5) [leafN 97, leafN 97, optN (-1) true (leafN 97)]
theorem exR_form : formB exR = true := by
  have h : formB (leafN 97) = true := by rw [leafN, formB, formL]; simp [formedB]
  rw [exR, formB, formL, formL, h]
  simp [formedB, zeroS_no]
theorem exR_exp : expN exR = exX := by
  rw [exR, expN, if_pos rfl, expL, expL, headN, leafN, expN, if_neg (by decide), expL]
  rfl
theorem exX_form : formB exX = true := by rw [← exR_exp]; exact form_exp _ exR_form
theorem exX_plain : plainN exX = true := by rw [← exR_exp]; exact plain_exp _ exR_form
theorem exR_plain : plainN exR = false := by rw [exR, plainN]; simp [onceB]
theorem exX_nodes : nodesN exX = 5 := by simp [exX, optN, leafN, nodesN, nodesL]
theorem exR_nodes : nodesN exR = 2 := by simp [exR, leafN, nodesN, nodesL]
theorem exR_depth : depthN exR = 3 := by simp [exR, leafN, depthN, depthA, deepB]; decide
theorem exR_chk : chkN exR = 0 := by
  have h := size_nodes exR exR_form
  rw [exR_exp, exX_nodes] at h
  unfold chkN
  rw [exR_form, exR_depth, h]
  decide
theorem exX_chk : chkN exX = 0 := by
  have h := size_nodes exX exX_form
  rw [exp_plain _ exX_form exX_plain, exX_nodes] at h
  have h2 := depth_exp exR exR_form
  rw [exR_exp, exR_depth] at h2
  unfold chkN
  rw [exX_form, if_neg (by decide), if_neg (by omega), h]
  decide
theorem text_a (w : World) : Calls Tryd.prog 49 #[.string { data := #[97] }] w (RetNd w (leafN 97)) := text_any { data := #[97] } w (by decide)

theorem rep_a (W : World) (sv : Value) (hW : NdOk W (leafN 97) sv) : Calls Tryd.prog 48 #[nodeV (leafN 97).h sv, .int .i64 2, .int .i64 (-1)] W (RetNd W exR) := rep_any (leafN 97) sv 2 (-1) W hW ⟨by simp, trivial⟩

set_option maxRecDepth 100000 in
set_option maxHeartbeats 4000000 in
theorem lives_any (w : World) (A : Nat → Addr) (hE : Err3 w A) :
    Calls Tryd.prog 14 #[] w fun r w' => r = .returned (.bool true) ∧ Ext w w' := by
  have HR := Lib.hid (fun W sv (hW : NdOk W (leafN 97) sv) => rep_a W sv hW)
  have HX := Lib.hid (fun W sv (hW : NdOk W exR sv) (hx : Ext w W) => (by
    have := expand_any exR sv W A 100 hW (hE.ext hx) (by decide) (left_few (by rw [exR_nodes]; decide))
    rwa [exR_exp, exR_chk] at this : Calls Tryd.prog 16 #[nodeV exR.h sv] W (RetNdE W A exX 0)))
  have HP1 := Lib.hid (fun W sv (hW : NdOk W exR sv) (hx : Ext w W) => (by
    have := plainP_any exR sv W A 100 hW (hE.ext hx) (by decide) (left_few (by rw [exR_nodes]; decide))
    rwa [exR_chk, exR_plain] at this : Calls Tryd.prog 22 #[nodeV exR.h sv] W fun r w' => r = .returned (.bool false) ∧ Ext W w'))
  have HP2 := Lib.hid (fun W sv (hW : NdOk W exX sv) (hx : Ext w W) => (by
    have := plainP_any exX sv W A 100 hW (hE.ext hx) (by decide) (left_few (by rw [exX_nodes]; decide))
    rwa [exX_chk, exX_plain] at this : Calls Tryd.prog 22 #[nodeV exX.h sv] W fun r w' => r = .returned (.bool true) ∧ Ext W w'))
  clear hE
  go_enter Tryd.func14, Tryd.ntmps14
  go_upto_region 2 with (first
    | (go_at_call 49; refine (text_a _).mono ?_; rintro e w1 ⟨sv1, rfl, hn1, hx1⟩)
    | (go_at_call 48; refine (HR.out _ sv1 hn1.ok).mono ?_; rintro e w2 ⟨sv2, rfl, hn2, hx2⟩)
    | (go_at_call 16; refine (HX.out _ sv2 hn2.ok (hx1.trans hx2)).mono ?_; rintro e w3 ⟨sv3, rfl, hn3, hx3⟩)
    | (refine wpl_allocNd rfl rfl ?_; intro z w4 hz hx4 ez sz)
    | (refine wpl_storeNd rfl _ _ rfl rfl z exX.h _ sv3 _ rfl rfl hn3.ok.sl hz ?_; intro w5 hz5 hk5; have hx5 := hx4.keep1 hk5 ez))
  obtain ⟨A3, c3, rfl⟩ := hn3.ok.shape
  have hok := (show NdOk w3 exX _ from hn3.ok).ext hx5
  obtain ⟨g, o, svo, rfl, hat, _⟩ := hok.get 2 (by decide)
  have hxw := ((hx1.trans hx2).trans hx3).trans hx5
  have k8 : w5.cell? ⟨g, o + 28, none⟩ = some (.int .i64 (-1)) := hat 8 (by omega)
  have k9 : w5.cell? ⟨g, o + 29, none⟩ = some (.bool true) := hat 9 (by omega)
  have c0 : w5.cell? ⟨z, 0, none⟩ = some (.int .i64 5) := hz5.cell 0
  have c5 : w5.cell? ⟨z, 5, none⟩ = some (.slice (some ⟨g, o, none⟩) 3 c3) := hz5.cell 5
  have hok2 := Lib.hid hok
  have he0 : errR A 0 = .nilIface := rfl
  clear hn3 hn2 hn1 hx1 hx2 hx3 hx4 hx5 hk5 hz ez hat HX hok
  go_wp2_with (first
    | (go_at_call 49; refine (text_a _).mono ?_; rintro e w6 ⟨sv6, rfl, hn6, hx6⟩)
    | (go_at_call 48; refine (HR.out _ sv6 hn6.ok).mono ?_; rintro e w7 ⟨sv7, rfl, hn7, hx7⟩)
    | (go_at_call 22; (with_reducible refine (HP1.out _ sv7 hn7.ok ((hxw.trans hx6).trans hx7)).mono ?_); rintro e w8 ⟨rfl, hx8⟩)
    | (refine wpl_loadNdG _ rfl rfl z 0 exX.h _ rfl (hz5.ext ((hx6.trans hx7).trans hx8)).nd ?_)
    | (go_at_call 22; (with_reducible refine (HP2.out _ _ (hok2.out.ext ((hx6.trans hx7).trans hx8)) (((hxw.trans hx6).trans hx7).trans hx8)).mono ?_); rintro e w9 ⟨rfl, hx9⟩))
  go_ret
  exact ⟨rfl, (((hxw.trans hx6).trans hx7).trans hx8).trans hx9⟩

end Go.Proofs.YthddlhpndaffjaaDoor
