/- tree.Check, expand.Expand, expand.Plain as contracts. Condition: the tree lies in memory, it has few nodes; the error values lie where they lie. expand.repeat as a contract: a repeat in form written out. Condition: the tree lies in memory, its lists are short; what 'expanded' answers for the tree below. expand.expanded as a contract: a tree in form written out, as new memory. Condition: the tree lies in memory, its lists are short, it is in form. expand.plain as a contract. Condition: the tree lies in memory, its lists are short. -/
import Derived.Test.YtkcgbdoplhgbmaaDoorZNormalMakesAC
import Derived.Test.YtkcgbdoplhgbmaaDoorNodeW
import Derived.Test.YtkcgbdoplhgbmaaDoorTree2
import Derived.Test.YtkcgbdoplhgbmaaDoorNodeI
import Derived.Test.YtkcgbdoplhgbmaaDoorExpP
namespace Go.Proofs.YtkcgbdoplhgbmaaDoor
open Go Go.RowKit

/-- The number of the error that Check answers; 0: none. -/
def chkN (n : Nd) : Nat := if formB n = false then 13 else if 200 < depthN n then 14 else if 2000 < sizeN n then 10 else 0
def errR (A : Nat → Addr) (k : Nat) : Value := if k = 0 then .nilIface else errV (A (k - 1))
theorem chk_ok {n : Nd} (h : chkN n = 0) : formB n = true ∧ depthN n ≤ 200 ∧ sizeN n ≤ 2000 := by
  unfold chkN at h
  cases hf : formB n
  · rw [if_pos hf] at h; cases h
  · rw [if_neg (by rw [hf]; decide)] at h
    split at h
    · cases h
    · split at h
      · cases h
      · exact ⟨rfl, by omega, by omega⟩

set_option maxRecDepth 100000 in
set_option maxHeartbeats 4000000 in
theorem check_any (n : Nd) (sv : Value) (w : World) (A : Nat → Addr) (m : Int) (hn : NdOk w n sv) (hE : Err3 w A) (hm : m ≤ 1000000) (hfew : 0 ≤ leftN n m) :
    Calls Tryd.prog 23 #[nodeV n.h sv] w fun r w' => r = .returned (errR A (chkN n)) ∧ Ext w w' := by
  have hsm := small_left n m hm hfew
  have H1 := Lib.hid (fun W (hW : Ext w W) => form_any n sv W (hn.ext hW) hsm)
  have H2 := Lib.hid (fun W (hW : Ext w W) => depth_any n sv W m (hn.ext hW) hm hfew)
  have H3 := Lib.hid (fun W (hW : Ext w W) (hf : formB n = true) => size_any n sv W (hn.ext hW) hsm hf)
  obtain ⟨v9, v12, v13⟩ := hE
  have HR := Lib.hid (show chkN n = if formB n = false then 13 else if 200 < depthN n then 14 else if 2000 < sizeN n then 10 else 0 from rfl)
  clear hn hm hfew hsm
  generalize chkN n = ck at *
  generalize depthN n = dn at *
  generalize sizeN n = sn at *
  generalize hf : formB n = fb at *
  clear hf
  generalize n.h = hd at *
  unfold errV at v9 v12 v13
  go_enter Tryd.func23, Tryd.ntmps23
  go_upto_region 1 with (refine wpl_boxNd rfl _ rfl hd _ rfl ?_; intro b w1 hb hx1 eb sb)
  cases fb
  · have HR2 := Lib.hid (HR.out.trans (if_pos rfl))
    clear HR H2 H3
    go_wp2_with (first
      | (refine wpl_loadNd rfl _ rfl b 0 hd _ rfl hb.nd ?_)
      | (go_at_call 64; refine (H1.out _ hx1).mono ?_; rintro e w2 ⟨rfl, hx2⟩; replace v12 := (hx1.trans hx2).cell v12))
    go_ret
    exact ⟨by rw [HR2.out]; rfl, hx1.trans hx2⟩
  have HR1 := Lib.hid (HR.out.trans (if_neg (by decide)))
  have H3' := Lib.hid (fun W hW => H3.out W hW rfl)
  clear HR H3
  by_cases hd1 : 200 < dn
  · have HR2 := Lib.hid (HR1.out.trans (if_pos hd1))
    clear HR1 H3'
    go_wp2_with (first
      | (refine wpl_loadNd rfl _ rfl b 0 hd _ rfl hb.nd ?_)
      | (go_at_call 64; refine (H1.out _ hx1).mono ?_; rintro e w2 ⟨rfl, hx2⟩)
      | (refine wpl_loadNd rfl _ rfl b 0 hd _ rfl (hb.ext hx2).nd ?_)
      | (go_at_call 26; refine (H2.out _ (hx1.trans hx2)).mono ?_; rintro e w3 ⟨rfl, hx3⟩; replace v13 := ((hx1.trans hx2).trans hx3).cell v13))
    go_ret
    exact ⟨by rw [HR2.out]; rfl, (hx1.trans hx2).trans hx3⟩
  have HR3 := Lib.hid (HR1.out.trans (if_neg hd1))
  clear HR1
  by_cases hd2 : 2000 < sn
  all_goals
    go_wp2_with (first
      | (refine wpl_loadNd rfl _ rfl b 0 hd _ rfl hb.nd ?_)
      | (go_at_call 64; refine (H1.out _ hx1).mono ?_; rintro e w2 ⟨rfl, hx2⟩)
      | (refine wpl_loadNd rfl _ rfl b 0 hd _ rfl (hb.ext hx2).nd ?_)
      | (go_at_call 26; refine (H2.out _ (hx1.trans hx2)).mono ?_; rintro e w3 ⟨rfl, hx3⟩)
      | (refine wpl_loadNd rfl _ rfl b 0 hd _ rfl (hb.ext (hx2.trans hx3)).nd ?_)
      | (go_at_call 65; refine (H3'.out _ ((hx1.trans hx2).trans hx3)).mono ?_; rintro e w4 ⟨rfl, hx4⟩; replace v9 := (((hx1.trans hx2).trans hx3).trans hx4).cell v9))
    go_ret
    exact ⟨by rw [HR3.out]; first | (rw [if_pos hd2]; rfl) | (rw [if_neg (by omega)]; rfl), ((hx1.trans hx2).trans hx3).trans hx4⟩

end Go.Proofs.YtkcgbdoplhgbmaaDoor

namespace Go.Proofs.YtkcgbdoplhgbmaaDoor
open Go Go.RowKit

theorem NdNew.far {B : Nat} {W0 W : World} {n : Nd} {sv v : Value} (h : NdNew B W0 n sv) (hx : Ext W0 W) (hv : ∀ i, v.ownBlock = some i → W0.heap.size ≤ i) : NdIn W (Off W v) n sv := h.ok.far hx hv

end Go.Proofs.YtkcgbdoplhgbmaaDoor

namespace Go.Proofs.YtkcgbdoplhgbmaaDoor
open Go Go.RowKit

end Go.Proofs.YtkcgbdoplhgbmaaDoor

namespace Go.Proofs.YtkcgbdoplhgbmaaDoor
open Go Go.RowKit

theorem plainL_app : ∀ (a b : List Nd), plainL (a ++ b) = (plainL a && plainL b)
  | [], _ => by simp [plainL]
  | n :: a, b => by
    show plainL (n :: (a ++ b)) = _
    rw [plainL, plainL, plainL_app a b, Bool.and_assoc]
theorem plainL_one (n : Nd) : plainL [n] = plainN n := by simp [plainL]

end Go.Proofs.YtkcgbdoplhgbmaaDoor
