/- The three error values of tree.Check as a walk meets them. No condition but that the row's listed variables hold what the row lists. tree.Check, expand.Expand, expand.Plain as contracts. Condition: the tree lies in memory, it has few nodes; the error values lie where they lie. expand.repeat as a contract: a repeat in form written out. Condition: the tree lies in memory, its lists are short; what 'expanded' answers for the tree below. expand.expanded as a contract: a tree in form written out, as new memory. Condition: the tree lies in memory, its lists are short, it is in form. -/
import Derived.Test.YtkcgbdoplhgbmaaDoorZNormalLessAC
import Derived.Test.YtkcgbdoplhgbmaaDoorNodeW
import Derived.Test.YtkcgbdoplhgbmaaDoorTree2
import Derived.Test.YtkcgbdoplhgbmaaDoorNodeI
namespace Go.Proofs.YtkcgbdoplhgbmaaDoor
open Go.RowKit Go.Extern.Stop Go.Stop Go.Extern

/-- Where ErrTooBig, ErrTree, ErrDeep lie. -/
structure Err3 (w : World) (A : Nat → Addr) : Prop where
  v9 : w.cell? ⟨9, 0, none⟩ = some (errV (A 9))
  v12 : w.cell? ⟨12, 0, none⟩ = some (errV (A 12))
  v13 : w.cell? ⟨13, 0, none⟩ = some (errV (A 13))
theorem Err3.ext {w w' : World} {A : Nat → Addr} (h : Err3 w A) (hx : Ext w w') : Err3 w' A := ⟨hx.cell h.v9, hx.cell h.v12, hx.cell h.v13⟩
theorem ErrsAt.three {w : World} {A : Nat → Addr} (h : ErrsAt w A) : Err3 w A := by
  have v9 := h.var 9 (by omega)
  have v12 := h.var 12 (by omega)
  have v13 := h.var 13 (by omega)
  simp only [gb, gbs, List.getD_cons_zero, List.getD_cons_succ] at v9 v12 v13
  exact ⟨v9, v12, v13⟩
def err3List : List (String × Nat × List UInt8) := [9, 12, 13].map fun i => (errNames.getD i "", gb i, errTexts.getD i [])
def err3Laid : List (String × DataW Unit) := err3List.map fun x => (x.1, errD x.2.2)
theorem errs3_at {W : World} (h : laidMet Tryd.prog err3Laid W) : ∃ A, Err3 W A := by
  obtain ⟨ps, hv, hnd, hrows⟩ := h
  obtain ⟨al, hl, hi, _, hn⟩ := laid_many err3List ps (by
    have hall : err3List.all (fun x => decide (Tryd.prog.globalNamed x.1 = some x.2.1 ∧ (Tryd.prog.globals[x.2.1]?).map (·.type) = some 32)) = true := by kernel_rfl
    intro x hx
    exact of_decide_eq_true (List.all_eq_true.1 hall x hx)) hv hnd hrows
  have hl3 : al.length = 3 := by rw [hl]; rfl
  obtain ⟨a0, a1, a2, rfl⟩ : ∃ a0 a1 a2, al = [a0, a1, a2] := by
    match al, hl3 with
    | [a0, a1, a2], _ => exact ⟨a0, a1, a2, rfl⟩
  refine ⟨fun i => if i = 9 then a0 else if i = 12 then a1 else a2, (hi 0 _ _ rfl rfl).1, (hi 1 _ _ rfl rfl).1, (hi 2 _ _ rfl rfl).1⟩

end Go.Proofs.YtkcgbdoplhgbmaaDoor

namespace Go.Proofs.YtkcgbdoplhgbmaaDoor
open Go Go.RowKit

/-- The number of the error that Check answers; 0: none. -/
def chkN (n : Nd) : Nat := if formB n = false then 13 else if 200 < depthN n then 14 else if 2000 < sizeN n then 10 else 0
def errR (A : Nat → Addr) (k : Nat) : Value := if k = 0 then .nilIface else errV (A (k - 1))
theorem chk_ok {n : Nd} (h : chkN n = 0) : formB n = true ∧ depthN n ≤ 200 ∧ sizeN n ≤ 2000 := by
  unfold chkN at h
  cases hf : formB n
  · rw [if_pos hf] at h; cases h
  · rw [if_neg (by rw [hf]; decide)] at h
    split at h
    · cases h
    · split at h
      · cases h
      · exact ⟨rfl, by omega, by omega⟩

set_option maxRecDepth 100000 in
set_option maxHeartbeats 4000000 in
theorem check_any (n : Nd) (sv : Value) (w : World) (A : Nat → Addr) (m : Int) (hn : NdOk w n sv) (hE : Err3 w A) (hm : m ≤ 1000000) (hfew : 0 ≤ leftN n m) :
    Calls Tryd.prog 23 #[nodeV n.h sv] w fun r w' => r = .returned (errR A (chkN n)) ∧ Ext w w' := by
  have hsm := small_left n m hm hfew
  have H1 := Lib.hid (fun W (hW : Ext w W) => form_any n sv W (hn.ext hW) hsm)
  have H2 := Lib.hid (fun W (hW : Ext w W) => depth_any n sv W m (hn.ext hW) hm hfew)
  have H3 := Lib.hid (fun W (hW : Ext w W) (hf : formB n = true) => size_any n sv W (hn.ext hW) hsm hf)
  obtain ⟨v9, v12, v13⟩ := hE
  have HR := Lib.hid (show chkN n = if formB n = false then 13 else if 200 < depthN n then 14 else if 2000 < sizeN n then 10 else 0 from rfl)
  clear hn hm hfew hsm
  generalize chkN n = ck at *
  generalize depthN n = dn at *
  generalize sizeN n = sn at *
  generalize hf : formB n = fb at *
  clear hf
  generalize n.h = hd at *
  unfold errV at v9 v12 v13
  go_enter Tryd.func23, Tryd.ntmps23
  go_upto_region 1 with (refine wpl_boxNd rfl _ rfl hd _ rfl ?_; intro b w1 hb hx1 eb sb)
  cases fb
  · have HR2 := Lib.hid (HR.out.trans (if_pos rfl))
    clear HR H2 H3
    go_wp2_with (first
      | (refine wpl_loadNd rfl _ rfl b 0 hd _ rfl hb.nd ?_)
      | (go_at_call 64; refine (H1.out _ hx1).mono ?_; rintro e w2 ⟨rfl, hx2⟩; replace v12 := (hx1.trans hx2).cell v12))
    go_ret
    exact ⟨by rw [HR2.out]; rfl, hx1.trans hx2⟩
  have HR1 := Lib.hid (HR.out.trans (if_neg (by decide)))
  have H3' := Lib.hid (fun W hW => H3.out W hW rfl)
  clear HR H3
  by_cases hd1 : 200 < dn
  · have HR2 := Lib.hid (HR1.out.trans (if_pos hd1))
    clear HR1 H3'
    go_wp2_with (first
      | (refine wpl_loadNd rfl _ rfl b 0 hd _ rfl hb.nd ?_)
      | (go_at_call 64; refine (H1.out _ hx1).mono ?_; rintro e w2 ⟨rfl, hx2⟩)
      | (refine wpl_loadNd rfl _ rfl b 0 hd _ rfl (hb.ext hx2).nd ?_)
      | (go_at_call 26; refine (H2.out _ (hx1.trans hx2)).mono ?_; rintro e w3 ⟨rfl, hx3⟩; replace v13 := ((hx1.trans hx2).trans hx3).cell v13))
    go_ret
    exact ⟨by rw [HR2.out]; rfl, (hx1.trans hx2).trans hx3⟩
  have HR3 := Lib.hid (HR1.out.trans (if_neg hd1))
  clear HR1
  by_cases hd2 : 2000 < sn
  all_goals
    go_wp2_with (first
      | (refine wpl_loadNd rfl _ rfl b 0 hd _ rfl hb.nd ?_)
      | (go_at_call 64; refine (H1.out _ hx1).mono ?_; rintro e w2 ⟨rfl, hx2⟩)
      | (refine wpl_loadNd rfl _ rfl b 0 hd _ rfl (hb.ext hx2).nd ?_)
      | (go_at_call 26; refine (H2.out _ (hx1.trans hx2)).mono ?_; rintro e w3 ⟨rfl, hx3⟩)
      | (refine wpl_loadNd rfl _ rfl b 0 hd _ rfl (hb.ext (hx2.trans hx3)).nd ?_)
      | (go_at_call 65; refine (H3'.out _ ((hx1.trans hx2).trans hx3)).mono ?_; rintro e w4 ⟨rfl, hx4⟩; replace v9 := (((hx1.trans hx2).trans hx3).trans hx4).cell v9))
    go_ret
    exact ⟨by rw [HR3.out]; first | (rw [if_pos hd2]; rfl) | (rw [if_neg (by omega)]; rfl), ((hx1.trans hx2).trans hx3).trans hx4⟩

end Go.Proofs.YtkcgbdoplhgbmaaDoor

namespace Go.Proofs.YtkcgbdoplhgbmaaDoor
open Go Go.RowKit

theorem NdNew.far {B : Nat} {W0 W : World} {n : Nd} {sv v : Value} (h : NdNew B W0 n sv) (hx : Ext W0 W) (hv : ∀ i, v.ownBlock = some i → W0.heap.size ≤ i) : NdIn W (Off W v) n sv := h.ok.far hx hv

end Go.Proofs.YtkcgbdoplhgbmaaDoor

namespace Go.Proofs.YtkcgbdoplhgbmaaDoor
open Go Go.RowKit

end Go.Proofs.YtkcgbdoplhgbmaaDoor
