/- trawlref04.Check as a contract: the number of tree.Check's error. Condition: the tree lies in memory, it has few nodes. -/
import Derived.Test.YthddlhpndaffjaaDoorForm04
import Derived.Test.YthddlhpndaffjaaDoorDepth04
import Derived.Test.YthddlhpndaffjaaDoorSize04
import Derived.Test.YthddlhpndaffjaaDoorCheck
namespace Go.Proofs.YthddlhpndaffjaaDoor
open Go Go.RowKit

set_option maxRecDepth 100000 in
set_option maxHeartbeats 4000000 in
theorem check04_any (n : Nd) (sv : Value) (w : World) (m : Int) (hn : NdOk w n sv) (hm : m ≤ 1000000) (hfew : 0 ≤ leftN n m) :
    Calls Tryd.prog 54 #[nodeV n.h sv] w fun r w' => r = .returned (.int .i64 (chkN n)) ∧ Ext w w' := by
  have hsm := small_left n m hm hfew
  have H1 := Lib.hid (fun W (hW : Ext w W) => form04_any n sv W (hn.ext hW) hsm)
  have H2 := Lib.hid (fun W (hW : Ext w W) => depth04_any n sv W m (hn.ext hW) hm hfew)
  have H3 := Lib.hid (fun W (hW : Ext w W) (hf : formB n = true) => size04_any n sv W (hn.ext hW) hsm hf)
  have HR := Lib.hid (show chkN n = if formB n = false then 13 else if 200 < depthN n then 14 else if 2000 < sizeN n then 10 else 0 from rfl)
  clear hn hm hfew hsm
  generalize chkN n = ck at *
  generalize depthN n = dn at *
  generalize sizeN n = sn at *
  generalize formB n = fb at *
  generalize n.h = hd at *
  go_enter Tryd.func54, Tryd.ntmps54
  go_upto_region 1 with (refine wpl_boxNd rfl _ rfl hd _ rfl ?_; intro b w1 hb hx1 eb sb)
  cases fb
  · have HR2 := Lib.hid (HR.out.trans (if_pos rfl))
    clear HR H2 H3
    go_wp2_with (first
      | (refine wpl_loadNd rfl _ rfl b 0 hd _ rfl hb.nd ?_)
      | (go_at_call 76; refine (H1.out _ hx1).mono ?_; rintro e w2 ⟨rfl, hx2⟩))
    go_ret
    exact ⟨by rw [HR2.out]; rfl, hx1.trans hx2⟩
  have HR1 := Lib.hid (HR.out.trans (if_neg (by decide)))
  have H3' := Lib.hid (fun W hW => H3.out W hW rfl)
  clear HR H3
  by_cases hd1 : 200 < dn
  · have HR2 := Lib.hid (HR1.out.trans (if_pos hd1))
    clear HR1 H3'
    go_wp2_with (first
      | (refine wpl_loadNd rfl _ rfl b 0 hd _ rfl hb.nd ?_)
      | (go_at_call 76; refine (H1.out _ hx1).mono ?_; rintro e w2 ⟨rfl, hx2⟩)
      | (refine wpl_loadNd rfl _ rfl b 0 hd _ rfl (hb.ext hx2).nd ?_)
      | (go_at_call 77; refine (H2.out _ (hx1.trans hx2)).mono ?_; rintro e w3 ⟨rfl, hx3⟩))
    go_ret
    exact ⟨by rw [HR2.out]; rfl, (hx1.trans hx2).trans hx3⟩
  have HR3 := Lib.hid (HR1.out.trans (if_neg hd1))
  clear HR1
  by_cases hd2 : 2000 < sn
  all_goals
    go_wp2_with (first
      | (refine wpl_loadNd rfl _ rfl b 0 hd _ rfl hb.nd ?_)
      | (go_at_call 76; refine (H1.out _ hx1).mono ?_; rintro e w2 ⟨rfl, hx2⟩)
      | (refine wpl_loadNd rfl _ rfl b 0 hd _ rfl (hb.ext hx2).nd ?_)
      | (go_at_call 77; refine (H2.out _ (hx1.trans hx2)).mono ?_; rintro e w3 ⟨rfl, hx3⟩)
      | (refine wpl_loadNd rfl _ rfl b 0 hd _ rfl (hb.ext (hx2.trans hx3)).nd ?_)
      | (go_at_call 78; refine (H3'.out _ ((hx1.trans hx2).trans hx3)).mono ?_; rintro e w4 ⟨rfl, hx4⟩))
    go_ret
    exact ⟨by rw [HR3.out]; first | (rw [if_pos hd2]; rfl) | (rw [if_neg (by omega)]; rfl), ((hx1.trans hx2).trans hx3).trans hx4⟩

end Go.Proofs.YthddlhpndaffjaaDoor
