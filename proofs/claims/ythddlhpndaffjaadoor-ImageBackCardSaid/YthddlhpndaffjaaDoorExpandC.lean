/- expand.Expand and expand.Plain as contracts. Condition: the tree lies in memory, it has few nodes; the error values lie where they lie. -/
import Derived.Test.YthddlhpndaffjaaDoorCheck
import Derived.Test.YthddlhpndaffjaaDoorExpanded
import Derived.Test.YthddlhpndaffjaaDoorPlain
namespace Go.Proofs.YthddlhpndaffjaaDoor
open Go Go.RowKit

/-- The tree behind a call that may answer an error. -/
def resN (n : Nd) (k : Nat) : Nd := if k = 0 then n else .mk (hdV 0) []
def RetNdE (w : World) (A : Nat → Addr) (n : Nd) (k : Nat) (r : Ending) (w' : World) : Prop := ∃ sv, r = .returned (.tuple #[nodeV (resN n k).h sv, errR A k]) ∧ NdNew w.heap.size w' (resN n k) sv ∧ Ext w w'

theorem ret_nd2 {a : Act} {w : World} {fn : Func} {x y : Tmp} {R : Ending → World → Prop} {g : Nat} {h : Hd} {sv e : Value} (hr : fn.results = #[.cell x 27, .tmp y]) (hp : a.tmps.getD x undef = .pointer (some ⟨g, 0, none⟩)) (he : a.tmps.getD y undef = e) (hd : a.defers = [])
    (hB : Blk w g 27 (nodeA h sv)) (hR : R (.returned (.tuple #[nodeV h sv, e])) w) : bodyPost Tryd.prog fn R .ret a w := by
  refine bodyPost_ret (v := .tuple #[nodeV h sv, e]) ?_ hd hR
  have h1 := run_loadVar_row (P := Tryd.prog) w g 27 27 (nodeA h sv) (0, 0) _ hB Tryd.underlying27 rfl (info_ndA h sv)
  have hp' : a.tmps[x]?.getD undef = .pointer (some ⟨g, 0, none⟩) := by simpa using hp
  have he' : a.tmps[y]?.getD undef = e := by simpa using he
  simp [results, hr, hp', he', asAddr, h1, nodeV_eq]

set_option maxRecDepth 100000 in
set_option maxHeartbeats 4000000 in
theorem expand_any (n : Nd) (sv : Value) (w : World) (A : Nat → Addr) (m : Int) (hn : NdOk w n sv) (hE : Err3 w A) (hm : m ≤ 1000000) (hfew : 0 ≤ leftN n m) :
    Calls Tryd.prog 16 #[nodeV n.h sv] w (RetNdE w A (expN n) (chkN n)) := by
  have hsm := small_left n m hm hfew
  have H1 := Lib.hid (fun W (hW : Ext w W) => check_any n sv W A m (hn.ext hW) (hE.ext hW) hm hfew)
  have H2 := Lib.hid (fun W (hW : Ext w W) (hf : chkN n = 0) => expanded_any n sv W (hn.ext hW) hsm (chk_ok hf).1)
  clear hE hn hm hfew hsm
  generalize chkN n = ck at *
  generalize expN n = res at *
  generalize n.h = hd at *
  go_enter Tryd.func16, Tryd.ntmps16
  go_upto_region 1 with (first
    | (refine wpl_boxNd rfl _ rfl hd _ rfl ?_; intro b w1 hb hx1 eb sb)
    | (refine wpl_allocNd rfl rfl ?_; intro z w2 hz hx2 ez sz))
  have h1 := hx1.size
  by_cases hk : ck = 0
  · subst hk
    have H2' := Lib.hid (fun W hW => H2.out W hW rfl)
    have H1' := Lib.hid (fun W hW => (by have := H1.out W hW; rwa [errR, if_pos rfl] at this : Calls Tryd.prog 31 #[nodeV hd sv] W fun r w' => r = .returned .nilIface ∧ Ext W w'))
    clear H1 H2
    go_wp2_with (first
      | (refine wpl_loadNd rfl _ rfl b 0 hd _ rfl (hb.ext hx2).nd ?_)
      | (go_at_call 31; refine (H1'.out _ (hx1.trans hx2)).mono ?_; rintro e w3 ⟨rfl, hx3⟩)
      | (refine wpl_loadNd rfl _ rfl b 0 hd _ rfl (hb.ext (hx2.trans hx3)).nd ?_)
      | (go_at_call 51; refine (H2'.out _ ((hx1.trans hx2).trans hx3)).mono ?_; rintro e w4 ⟨sv4, rfl, hn4, hx4⟩)
      | (refine wpl_storeNd rfl _ _ rfl rfl z res.h _ sv4 _ rfl rfl hn4.ok.sl (hz.ext (hx3.trans hx4)) ?_; intro w5 hz5 hk5))
    have h2 := hx2.size
    have h3 := hx3.size
    exact ret_nd2 rfl rfl rfl rfl hz5 ⟨sv4, rfl, ((show NdNew w3.heap.size w4 (resN res 0) sv4 from hn4).keep1 hk5 (by omega)).mono (by omega), (((hx1.trans hx2).trans hx3).trans hx4).keep1 hk5 (by omega)⟩
  · have H1' := Lib.hid (fun W hW => (by have := H1.out W hW; rwa [errR, if_neg hk] at this : Calls Tryd.prog 31 #[nodeV hd sv] W fun r w' => r = .returned (errV (A (ck - 1))) ∧ Ext W w'))
    have HE := Lib.hid (show errR A ck = errV (A (ck - 1)) from if_neg hk)
    have HR := Lib.hid (show resN res ck = .mk (hdV 0) [] from if_neg hk)
    clear H1 H2
    unfold errV at *
    go_wp2_with (first
      | (refine wpl_loadNd rfl _ rfl b 0 hd _ rfl (hb.ext hx2).nd ?_)
      | (go_at_call 31; refine (H1'.out _ (hx1.trans hx2)).mono ?_; rintro e w3 ⟨rfl, hx3⟩)
      | (refine wpl_storeNd rfl _ _ rfl rfl z (hdV 0) _ (.slice none 0 0) _ rfl (node_lit _ _ _ _ _ _) (isSl_mk _ _ _) (hz.ext hx3) ?_; intro w5 hz5 hk5))
    exact ret_nd2 rfl rfl rfl rfl hz5 ⟨_, by rw [HE.out, HR.out]; rfl, by rw [HR.out]; exact NdNew.nil _ _ _ _ _, ((hx1.trans hx2).trans hx3).keep1 hk5 (by omega)⟩

set_option maxRecDepth 100000 in
set_option maxHeartbeats 4000000 in
theorem plainP_any (n : Nd) (sv : Value) (w : World) (A : Nat → Addr) (m : Int) (hn : NdOk w n sv) (hE : Err3 w A) (hm : m ≤ 1000000) (hfew : 0 ≤ leftN n m) :
    Calls Tryd.prog 22 #[nodeV n.h sv] w fun r w' => r = .returned (.bool (decide (chkN n = 0) && plainN n)) ∧ Ext w w' := by
  have hsm := small_left n m hm hfew
  have H1 := Lib.hid (fun W (hW : Ext w W) => check_any n sv W A m (hn.ext hW) (hE.ext hW) hm hfew)
  have H2 := Lib.hid (fun W (hW : Ext w W) => plain_any n sv W (hn.ext hW) hsm)
  clear hE hn hm hfew hsm
  generalize chkN n = ck at *
  generalize plainN n = res at *
  generalize n.h = hd at *
  go_enter Tryd.func22, Tryd.ntmps22
  go_upto_region 1 with (refine wpl_boxNd rfl _ rfl hd _ rfl ?_; intro b w1 hb hx1 eb sb)
  by_cases hk : ck = 0
  · subst hk
    have H1' := Lib.hid (fun W hW => (by have := H1.out W hW; rwa [errR, if_pos rfl] at this : Calls Tryd.prog 31 #[nodeV hd sv] W fun r w' => r = .returned .nilIface ∧ Ext W w'))
    clear H1
    go_wp2_with (first
      | (refine wpl_loadNd rfl _ rfl b 0 hd _ rfl hb.nd ?_)
      | (go_at_call 31; refine (H1'.out _ hx1).mono ?_; rintro e w3 ⟨rfl, hx3⟩)
      | (refine wpl_loadNdG _ rfl rfl b 0 hd _ rfl (hb.ext hx3).nd ?_)
      | (go_at_call 57; refine (H2.out _ (hx1.trans hx3)).mono ?_; rintro e w4 ⟨rfl, hx4⟩))
    go_ret
    exact ⟨by simp, (hx1.trans hx3).trans hx4⟩
  · have H1' := Lib.hid (fun W hW => (by have := H1.out W hW; rwa [errR, if_neg hk] at this : Calls Tryd.prog 31 #[nodeV hd sv] W fun r w' => r = .returned (errV (A (ck - 1))) ∧ Ext W w'))
    have HK := Lib.hid hk
    clear H1 hk
    unfold errV at *
    go_wp2_with (first
      | (refine wpl_loadNd rfl _ rfl b 0 hd _ rfl hb.nd ?_)
      | (go_at_call 31; refine (H1'.out _ hx1).mono ?_; rintro e w3 ⟨rfl, hx3⟩))
    go_ret
    exact ⟨by simp [HK.out], hx1.trans hx3⟩

end Go.Proofs.YthddlhpndaffjaaDoor
