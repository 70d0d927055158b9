/- ExpandOwns as a walk. Condition: the tree lies in memory; the error values lie where they lie. -/
import Derived.Test.YthddlhpndaffjaaDoorELives
import Derived.Test.YthddlhpndaffjaaDoorMarked
namespace Go.Proofs.YthddlhpndaffjaaDoor
open Go Go.RowKit

theorem expand_ok (n : Nd) (sv : Value) (w : World) (A : Nat → Addr) (m : Int) (hn : NdOk w n sv) (hE : Err3 w A) (hm : m ≤ 1000000) (hfew : 0 ≤ leftN n m) (hc : chkN n = 0) :
    Calls Tryd.prog 16 #[nodeV n.h sv] w fun r w' => ∃ sv', r = .returned (.tuple #[nodeV (expN n).h sv', .nilIface]) ∧ NdNew w.heap.size w' (expN n) sv' ∧ Ext w w' := by
  refine (expand_any n sv w A m hn hE hm hfew).mono ?_
  rw [hc]
  rintro e w' ⟨sv', rfl, h1, h2⟩
  exact ⟨sv', rfl, h1, h2⟩
theorem expand_bad (n : Nd) (sv : Value) (w : World) (A : Nat → Addr) (m : Int) (hn : NdOk w n sv) (hE : Err3 w A) (hm : m ≤ 1000000) (hfew : 0 ≤ leftN n m) (hc : chkN n ≠ 0) :
    Calls Tryd.prog 16 #[nodeV n.h sv] w fun r w' => ∃ sv', r = .returned (.tuple #[nodeV (hdV 0) sv', errV (A (chkN n - 1))]) ∧ NdNew w.heap.size w' (.mk (hdV 0) []) sv' ∧ Ext w w' := by
  refine (expand_any n sv w A m hn hE hm hfew).mono ?_
  rintro e w' ⟨sv', rfl, h1, h2⟩
  unfold resN at h1 ⊢
  rw [if_neg hc] at h1 ⊢
  exact ⟨sv', by unfold errR; rw [if_neg hc]; rfl, h1, h2⟩
theorem exp_few {n : Nd} (hc : chkN n = 0) : nodesN (expN n) ≤ 2000 := by
  obtain ⟨h1, _, h3⟩ := chk_ok hc
  rw [size_nodes n h1] at h3
  omega

set_option maxRecDepth 100000 in
set_option maxHeartbeats 4000000 in
theorem expandOwns_walk (n : Nd) (sv : Value) (w : World) (A : Nat → Addr) (hn : NdOk w n sv) (hE : Err3 w A) :
    Calls Tryd.prog 3 #[nodeV n.h sv] w fun r w' => r = .returned (.bool true) ∧ Ext w w' := by
  have HL := Lib.hid (fun W (hW : Ext w W) => lives_any W A (hE.ext hW))
  have HF := Lib.hid (fun W (hW : Ext w W) => few_any n sv 3000 W (NdOk.ext hW _ _ hn) (by omega) (by omega))
  have HO := Lib.hid (fun W (hW : Ext w W) hf hc => expand_ok n sv W A 3000 (NdOk.ext hW _ _ hn) (hE.ext hW) (by omega) hf hc)
  have HB := Lib.hid (fun W (hW : Ext w W) hf hc => expand_bad n sv W A 3000 (NdOk.ext hW _ _ hn) (hE.ext hW) (by omega) hf hc)
  have HN := Lib.hid (fun hc => (exp_few hc : nodesN (expN n) ≤ 2000))
  clear hn hE
  generalize leftN n 3000 = lf at *
  generalize chkN n = ck at *
  generalize expN n = xn at *
  generalize n.h = hd at *
  go_enter Tryd.func3, Tryd.ntmps3
  go_upto_region 1 with (refine wpl_boxNd rfl _ rfl hd _ rfl ?_; intro b w1 hb hx1 eb sb)
  by_cases hf : 0 ≤ lf
  · have HO2 := Lib.hid (fun W hW => HO.out W hW hf)
    have HB2 := Lib.hid (fun W hW => HB.out W hW hf)
    clear HO HB
    by_cases hc : ck = 0
    · have HO3 := Lib.hid (fun W hW => HO2.out W hW hc)
      have hn0 := HN.out hc
      obtain ⟨xh, xs⟩ := xn
      rw [nodesN] at hn0
      simp only [Nd.h] at HO3
      clear HO2 HB2 HN hc
      go_upto_region 6 with (first
        | (go_at_call 14; refine (HL.out _ hx1).mono ?_; rintro e w2 ⟨rfl, hx2⟩)
        | (refine wpl_loadNd rfl _ rfl b 0 hd _ rfl (hb.ext hx2).nd ?_)
        | (go_at_call 15; refine (HF.out _ (hx1.trans hx2)).mono ?_; rintro e w3 ⟨rfl, hx3⟩)
        | (refine wpl_loadNd rfl _ rfl b 0 hd _ rfl (hb.ext (hx2.trans hx3)).nd ?_)
        | (go_at_call 16; refine (HO3.out _ ((hx1.trans hx2).trans hx3)).mono ?_; rintro e w4 ⟨sv4, rfl, hn4, hx4⟩)
        | (refine wpl_allocNd rfl rfl ?_; intro z w5 hz hx5 ez sz)
        | (refine wpl_storeNd rfl _ _ rfl rfl z xh _ sv4 _ rfl rfl hn4.ok.sl hz ?_; intro w6 hz6 hk6))
      obtain ⟨fp, f1, f2, f3⟩ := hn4
      have h3 := hx3.size
      have h4 := hx4.size
      have h13 := ((hx1.trans hx2).trans hx3).size
      have hx46 := hx5.keep1 hk6 ez
      have hx6 := ((hx1.trans hx2).trans (hx3.trans hx4)).trans hx46
      have h46 := hx46.size
      have HA := Lib.hid (apart_any (.mk xh xs) sv4 fp w6 (f1.ext hx46 (fun b hb => (f3 b hb).2)) f2 (fun b hb => by have := f3 b hb; omega) (by simp only [Nd.subs]; omega))
      simp only [Nd.h] at HA
      have HFL := Lib.hid (fun y (hy : y ∈ fp) => (f3 y hy).1)
      clear f1 f2 f3 HL HF HO3 hb hz hx1 hx2 hx3 hx4 hx5 hk6 hx46
      go_wp2_with (first
        | (refine wpl_loadNdG _ rfl rfl z 0 xh _ rfl hz6.nd ?_)
        | (go_at_call 17; refine HA.out.mono ?_; rintro e w7 ⟨rfl, hk7⟩))
      go_ret
      exact ⟨rfl, hx6.keeps hk7 (fun i hi e => by have := HFL.out i e; omega)⟩
    · have HB3 := Lib.hid (fun W hW => HB2.out W hW hc)
      clear HO2 HB2 HN
      unfold errV at HB3
      go_wp2_with (first
        | (go_at_call 14; refine (HL.out _ hx1).mono ?_; rintro e w2 ⟨rfl, hx2⟩)
        | (refine wpl_loadNd rfl _ rfl b 0 hd _ rfl (hb.ext hx2).nd ?_)
        | (go_at_call 15; refine (HF.out _ (hx1.trans hx2)).mono ?_; rintro e w3 ⟨rfl, hx3⟩)
        | (refine wpl_loadNd rfl _ rfl b 0 hd _ rfl (hb.ext (hx2.trans hx3)).nd ?_)
        | (go_at_call 16; refine (HB3.out _ ((hx1.trans hx2).trans hx3)).mono ?_; rintro e w4 ⟨sv4, rfl, hn4, hx4⟩)
        | (refine wpl_allocNd rfl rfl ?_; intro z w5 hz hx5 ez sz)
        | (refine wpl_storeNd rfl _ _ rfl rfl z (hdV 0) _ sv4 _ rfl rfl hn4.ok.sl hz ?_; intro w6 hz6 hk6))
      go_ret
      exact ⟨rfl, (((hx1.trans hx2).trans hx3).trans hx4).trans (hx5.keep1 hk6 ez)⟩
  · have hd0 : decide (0 ≤ lf) = false := by simpa using hf
    rw [hd0] at HF
    clear HO HB HN hd0 hf
    go_wp2_with (first
      | (go_at_call 14; refine (HL.out _ hx1).mono ?_; rintro e w2 ⟨rfl, hx2⟩)
      | (refine wpl_loadNd rfl _ rfl b 0 hd _ rfl (hb.ext hx2).nd ?_)
      | (go_at_call 15; refine (HF.out _ (hx1.trans hx2)).mono ?_; rintro e w3 ⟨rfl, hx3⟩))
    go_ret
    exact ⟨rfl, (hx1.trans hx2).trans hx3⟩

end Go.Proofs.YthddlhpndaffjaaDoor
