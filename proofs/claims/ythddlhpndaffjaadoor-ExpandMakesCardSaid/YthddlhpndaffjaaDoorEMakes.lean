/- trawlref14.Expand and Plain as contracts. Condition: the tree lies in memory, it has few nodes. ExpandMakes as a walk. Condition: the tree lies in memory; the error values lie where they lie. -/
import Derived.Test.YthddlhpndaffjaaDoorOf14
import Derived.Test.YthddlhpndaffjaaDoorCheck04
import Derived.Test.YthddlhpndaffjaaDoorExpandC
import Derived.Test.YthddlhpndaffjaaDoorSame
import Derived.Test.YthddlhpndaffjaaDoorELives
import Derived.Test.YthddlhpndaffjaaDoorCopyN
import Derived.Test.YthddlhpndaffjaaDoorEAid
namespace Go.Proofs.YthddlhpndaffjaaDoor
open Go Go.RowKit

def RetBE (w : World) (n : Nd) (k : Nat) (r : Ending) (w' : World) : Prop := ∃ sv, r = .returned (.tuple #[nodeV (resN n k).h sv, .int .i64 k]) ∧ NdB w.heap.size w' (resN n k) sv ∧ Ext w w'

set_option maxRecDepth 100000 in
set_option maxHeartbeats 4000000 in
theorem expand14_any (n : Nd) (sv : Value) (w : World) (m : Int) (hn : NdOk w n sv) (hm : m ≤ 1000000) (hfew : 0 ≤ leftN n m) :
    Calls Tryd.prog 19 #[nodeV n.h sv] w (RetBE w (expN n) (chkN n)) := by
  have hsm := small_left n m hm hfew
  have H1 := Lib.hid (fun W (hW : Ext w W) => check04_any n sv W m (hn.ext hW) hm hfew)
  have H2 := Lib.hid (fun W (hW : Ext w W) (hf : chkN n = 0) => of14_any n sv W (hn.ext hW) hsm (chk_ok hf).1)
  clear hn hm hfew hsm
  generalize chkN n = ck at *
  generalize expN n = res at *
  generalize n.h = hd at *
  go_enter Tryd.func19, Tryd.ntmps19
  go_upto_region 1 with (first
    | (refine wpl_boxNd rfl _ rfl hd _ rfl ?_; intro b w1 hb hx1 eb sb)
    | (refine wpl_allocNd rfl rfl ?_; intro z w2 hz hx2 ez sz))
  have h1 := hx1.size
  by_cases hk : ck = 0
  · subst hk
    have H2' := Lib.hid (fun W hW => H2.out W hW rfl)
    clear H2
    go_wp2_with (first
      | (refine wpl_loadNd rfl _ rfl b 0 hd _ rfl (hb.ext hx2).nd ?_)
      | (go_at_call 54; refine (H1.out _ (hx1.trans hx2)).mono ?_; rintro e w3 ⟨rfl, hx3⟩)
      | (refine wpl_loadNd rfl _ rfl b 0 hd _ rfl (hb.ext (hx2.trans hx3)).nd ?_)
      | (go_at_call 55; refine (H2'.out _ ((hx1.trans hx2).trans hx3)).mono ?_; rintro e w4 ⟨sv4, rfl, hn4, hx4⟩)
      | (refine wpl_storeNd rfl _ _ rfl rfl z res.h _ sv4 _ rfl rfl hn4.ok.sl (hz.ext (hx3.trans hx4)) ?_; intro w5 hz5 hk5))
    have h2 := hx2.size
    have h3 := hx3.size
    exact ret_nd2 rfl rfl rfl rfl hz5 ⟨sv4, rfl, ((show NdB w3.heap.size w4 (resN res 0) sv4 from hn4).keep1 hk5 (by omega)).mono (by omega), (((hx1.trans hx2).trans hx3).trans hx4).keep1 hk5 (by omega)⟩
  · have HR := Lib.hid (show resN res ck = .mk (hdV 0) [] from if_neg hk)
    have n1 : ((ck : Int) != 0) = true := by simpa using hk
    clear H2
    go_wp2_with (first
      | (refine wpl_loadNd rfl _ rfl b 0 hd _ rfl (hb.ext hx2).nd ?_)
      | (go_at_call 54; refine (H1.out _ (hx1.trans hx2)).mono ?_; rintro e w3 ⟨rfl, hx3⟩)
      | (refine wpl_storeNd rfl _ _ rfl rfl z (hdV 0) _ (.slice none 0 0) _ rfl (node_lit _ _ _ _ _ _) (isSl_mk _ _ _) (hz.ext hx3) ?_; intro w5 hz5 hk5))
    exact ret_nd2 rfl rfl rfl rfl hz5 ⟨_, by rw [HR.out]; rfl, by rw [HR.out]; exact NdB.nil _ _ _ _ _, ((hx1.trans hx2).trans hx3).keep1 hk5 (by omega)⟩

set_option maxRecDepth 100000 in
set_option maxHeartbeats 4000000 in
theorem plain14_any (n : Nd) (sv : Value) (w : World) (m : Int) (hn : NdOk w n sv) (hm : m ≤ 1000000) (hfew : 0 ≤ leftN n m) :
    Calls Tryd.prog 23 #[nodeV n.h sv] w fun r w' => r = .returned (.bool (decide (chkN n = 0) && plainN n)) ∧ Ext w w' := by
  have hsm := small_left n m hm hfew
  have H1 := Lib.hid (fun W (hW : Ext w W) => expand14_any n sv W m (hn.ext hW) hm hfew)
  have H2 := Lib.hid (fun W svx (hW : Ext w W) (hx : NdOk W (expN n) svx) (hf : chkN n = 0) => (by
    have := sameR_any (expN n) svx n sv W hx (hn.ext hW) (small_exp n hsm (chk_ok hf).1)
    rwa [same_exp n (chk_ok hf).1] at this : Calls Tryd.prog 58 #[nodeV (expN n).h svx, nodeV n.h sv] W fun r w' => r = .returned (.bool (plainN n)) ∧ Ext W w'))
  clear hn hm hfew hsm
  generalize chkN n = ck at *
  generalize expN n = res at *
  generalize plainN n = pl at *
  generalize n.h = hd at *
  go_enter Tryd.func23, Tryd.ntmps23
  go_upto_region 1 with (refine wpl_boxNd rfl _ rfl hd _ rfl ?_; intro b w1 hb hx1 eb sb)
  by_cases hk : ck = 0
  · subst hk
    have H1' := Lib.hid (fun W hW => (H1.out W hW : Calls Tryd.prog 19 #[nodeV hd sv] W fun r w' => ∃ sv', r = .returned (.tuple #[nodeV res.h sv', .int .i64 0]) ∧ NdB W.heap.size w' res sv' ∧ Ext W w'))
    have H2' := Lib.hid (fun W svx hW hx => H2.out W svx hW hx rfl)
    clear H1 H2
    go_wp2_with (first
      | (refine wpl_loadNd rfl _ rfl b 0 hd _ rfl hb.nd ?_)
      | (go_at_call 19; refine (H1'.out _ hx1).mono ?_; rintro e w3 ⟨sv3, rfl, hn3, hx3⟩)
      | (refine wpl_allocNd rfl rfl ?_; intro z w4 hz hx4 ez sz)
      | (refine wpl_storeNd rfl _ _ rfl rfl z res.h _ sv3 _ rfl rfl hn3.ok.sl hz ?_; intro w5 hz5 hk5; have hx5 := hx4.keep1 hk5 ez)
      | (refine wpl_loadNdG _ rfl rfl z 0 res.h _ rfl hz5.nd ?_)
      | (refine wpl_loadNdG _ rfl rfl b 0 hd _ rfl (hb.ext (hx3.trans hx5)).nd ?_)
      | (go_at_call 58; refine (H2'.out _ sv3 ((hx1.trans hx3).trans hx5) (hn3.ok.ext hx5)).mono ?_; rintro e w6 ⟨rfl, hx6⟩))
    go_ret
    exact ⟨by simp, ((hx1.trans hx3).trans hx5).trans hx6⟩
  · have H1' := Lib.hid (fun W hW => (by
      have := H1.out W hW
      unfold RetBE resN at this
      rwa [if_neg hk] at this : Calls Tryd.prog 19 #[nodeV hd sv] W fun r w' => ∃ sv', r = .returned (.tuple #[nodeV (hdV 0) sv', .int .i64 ck]) ∧ NdB W.heap.size w' (.mk (hdV 0) []) sv' ∧ Ext W w'))
    have HK := Lib.hid hk
    have n1 : ((ck : Int) == 0) = false := by rw [beq_eq_false_iff_ne]; omega
    clear H1 H2 hk
    go_wp2_with (first
      | (refine wpl_loadNd rfl _ rfl b 0 hd _ rfl hb.nd ?_)
      | (go_at_call 19; refine (H1'.out _ hx1).mono ?_; rintro e w3 ⟨sv3, rfl, hn3, hx3⟩)
      | (refine wpl_allocNd rfl rfl ?_; intro z w4 hz hx4 ez sz)
      | (refine wpl_storeNd rfl _ _ rfl rfl z (hdV 0) _ sv3 _ rfl rfl hn3.ok.sl hz ?_; intro w5 hz5 hk5; have hx5 := hx4.keep1 hk5 ez))
    go_ret
    exact ⟨by simp [HK.out], (hx1.trans hx3).trans hx5⟩

end Go.Proofs.YthddlhpndaffjaaDoor

namespace Go.Proofs.YthddlhpndaffjaaDoor
open Go Go.RowKit

theorem NdNew.keeps {B : Nat} {W W' : World} {F : Nat → Prop} {n : Nd} {sv : Value} (h : NdNew B W n sv) (hk : Keeps F W W') (hF : ∀ b, B ≤ b → b < W.heap.size → ¬ F b) : NdNew B W' n sv := by
  obtain ⟨fp, h1, h2, h3⟩ := h
  exact ⟨fp, h1.keep (fun b hb => sameAt_of_block (hk.block b (h3 b hb).2 (hF b (h3 b hb).1 (h3 b hb).2))), h2, fun b hb => ⟨(h3 b hb).1, Nat.lt_of_lt_of_le (h3 b hb).2 hk.size⟩⟩

set_option maxRecDepth 100000 in
set_option maxHeartbeats 4000000 in
theorem expandMakes_walk (n : Nd) (sv : Value) (w : World) (A : Nat → Addr) (hn : NdOk w n sv) (hE : ErrsAt w A) :
    Calls Tryd.prog 4 #[nodeV n.h sv] w fun r w' => r = .returned (.bool true) ∧ Ext w w' := by
  have HL := Lib.hid (fun W (hW : Ext w W) => lives_any W A (hE.three.ext hW))
  have HF := Lib.hid (fun W (hW : Ext w W) => few_any n sv 3000 W (NdOk.ext hW _ _ hn) (by omega) (by omega))
  by_cases hf : 0 ≤ leftN n 3000
  · have hsm := small_left n 3000 (by omega) hf
    have hsx : smallN (resN (expN n) (chkN n)) := small_res fun hc => small_exp n hsm (chk_ok hc).1
    have HC := Lib.hid (fun W (hW : Ext w W) => (by exact copyNode_any n sv W (hn.ext hW) hsm : Calls Tryd.prog 18 #[nodeV n.h sv] W fun r w' => ∃ s, r = .returned (nodeV n.h s) ∧ NdNew W.heap.size w' n s ∧ Ext W w'))
    have HE := Lib.hid (fun W sv' (hW : Ext w W) (hn' : NdOk W n sv') => (by exact expand_any n sv' W A 3000 hn' (hE.three.ext hW) (by omega) hf : Calls Tryd.prog 16 #[nodeV n.h sv'] W fun r w' => ∃ sva, r = .returned (.tuple #[nodeV (resN (expN n) (chkN n)).h sva, errR A (chkN n)]) ∧ NdNew W.heap.size w' (resN (expN n) (chkN n)) sva ∧ Ext W w'))
    have HX := Lib.hid (fun W (hW : Ext w W) => (by exact expand14_any n sv W 3000 (hn.ext hW) (by omega) hf : Calls Tryd.prog 19 #[nodeV n.h sv] W fun r w' => ∃ sva, r = .returned (.tuple #[nodeV (resN (expN n) (chkN n)).h sva, .int .i64 (chkN n)]) ∧ NdB W.heap.size w' (resN (expN n) (chkN n)) sva ∧ Ext W w'))
    have HNum := Lib.hid (fun W (hW : Ext w W) => num_errR A (chkN n) W (chk_le n) (hE.ext hW))
    have HS := Lib.hid (fun W a b (ha : NdOk W (resN (expN n) (chkN n)) a) (hb : NdOk W (resN (expN n) (chkN n)) b) => (by
      have := sameNodes_any _ a _ b W ha hb hsx
      rwa [sameN_refl] at this : Calls Tryd.prog 21 #[nodeV (resN (expN n) (chkN n)).h a, nodeV (resN (expN n) (chkN n)).h b] W fun r w' => r = .returned (.bool true) ∧ Ext W w'))
    have HS2 := Lib.hid (fun W a b (ha : NdOk W n a) (hb : NdOk W n b) => (by
      have := sameNodes_any _ a _ b W ha hb hsm
      rwa [sameN_refl] at this : Calls Tryd.prog 21 #[nodeV n.h a, nodeV n.h b] W fun r w' => r = .returned (.bool true) ∧ Ext W w'))
    have HP1 := Lib.hid (fun W sv' (hW : Ext w W) (hn' : NdOk W n sv') => plainP_any n sv' W A 3000 hn' (hE.three.ext hW) (by omega) hf)
    have HP2 := Lib.hid (fun W (hW : Ext w W) => plain14_any n sv W 3000 (hn.ext hW) (by omega) hf)
    have HSP := Lib.hid (fun sv' fp W (h : NdFp W n sv' fp) hnd hlt => spoil_any n n.h sv' fp W (by obtain ⟨a, b⟩ := n; exact h) hnd hlt hsm)
    have HSF := Lib.hid (fun sv' fp W z (h : NdFp W (resN (expN n) (chkN n)) sv' fp) hnd hlt hz hzf => spoilFirst_any _ sv' fp W z h hnd hlt hz hzf hsx)
    have HFew := Lib.hid hf
    have HNO := Lib.hid hn
    clear hE hn hsm hsx hf
    generalize leftN n 3000 = lf at *
    generalize resN (expN n) (chkN n) = x at *
    generalize (decide (chkN n = 0) && plainN n) = pb at *
    generalize errR A (chkN n) = ev at *
    generalize chkN n = ck at *
    have hfd : decide (0 ≤ lf) = true := by simpa using HFew.out
    rw [hfd] at HF
    clear hfd
    generalize n.h = hd at *
    generalize x.h = xh at *
    go_enter Tryd.func4, Tryd.ntmps4
    go_upto_region 6 with (first
      | (refine wpl_boxNd rfl _ rfl hd _ rfl ?_; intro b w1 hb hx1 eb sb)
      | (go_at_call 14; refine (HL.out _ hx1).mono ?_; rintro e w2 ⟨rfl, hx2⟩)
      | (refine wpl_loadNd rfl _ rfl b 0 hd _ rfl (hb.ext hx2).nd ?_)
      | (go_at_call 15; refine (HF.out _ (hx1.trans hx2)).mono ?_; rintro e w3 ⟨rfl, hx3⟩)
      | (refine wpl_loadNd rfl _ rfl b 0 hd _ rfl (hb.ext (hx2.trans hx3)).nd ?_)
      | (go_at_call 18; refine (HC.out _ ((hx1.trans hx2).trans hx3)).mono ?_; rintro e w4 ⟨svm, rfl, hm4, hx4⟩)
      | (refine wpl_allocNd rfl rfl ?_; intro mm w5 hz hx5 ez sz)
      | (refine wpl_storeNd rfl _ _ rfl rfl mm hd _ svm _ rfl rfl hm4.ok.sl hz ?_; intro w6 hmb hk6; have hx6 := hx5.keep1 hk6 ez))
    obtain ⟨fpm, hfm, hmnd, hmlt⟩ := hm4
    have hwm : Ext w w3 := (hx1.trans hx2).trans hx3
    have hw6 : Ext w w6 := (hwm.trans hx4).trans hx6
    have hb6 := hb.ext (((hx2.trans hx3).trans hx4).trans hx6)
    replace hfm := hfm.ext hx6 (fun b hb => (hmlt b hb).2)
    have s3 := hwm.size
    have s4 := hx6.size
    have HML := Lib.hid (fun y (hy : y ∈ fpm) => (⟨by have := hmlt y hy; omega, by have := hmlt y hy; omega, by have := hmlt y hy; omega⟩ : w.heap.size ≤ y ∧ y < mm ∧ y < w6.heap.size))
    have HFM := Lib.hid hfm
    have HMN := Lib.hid hmnd
    have hmm6 := hmb.lt
    have s6w : w.heap.size ≤ w6.heap.size := hw6.size
    have hmok := hfm.ok
    clear hb hx1 hx2 hx3 hx4 hx5 hx6 hk6 ez sz hz eb sb hfm hmnd hmlt hwm s3 s4 HL HF HC
    try simp only [Act.put, List.setIfInBounds_toArray, List.set_cons_succ, List.set_cons_zero]
    go_upto_region 7 with (first
      | (refine wpl_loadNd rfl _ rfl mm 0 hd _ rfl hmb.nd ?_)
      | (go_at_call 16; refine (HE.out _ svm hw6 hmok).mono ?_; rintro e w7 ⟨sva, rfl, ha7, hx7⟩)
      | (refine wpl_allocNd rfl rfl ?_; intro ma w8 hz hx8 ez sz)
      | (refine wpl_storeNd rfl _ _ rfl rfl ma xh _ sva _ rfl rfl ha7.ok.sl hz ?_; intro w9 hma hk9; have hx9 := hx8.keep1 hk9 ez))
    obtain ⟨fpa, hfa, hand, halt⟩ := ha7
    have hx69 := hx7.trans hx9
    replace hfa := hfa.ext hx9 (fun b hb => (halt b hb).2)
    have s7 := hx7.size
    have s9 := hx9.size
    have HAL := Lib.hid (fun y (hy : y ∈ fpa) => (⟨by have := halt y hy; omega, by have := halt y hy; omega, by have := halt y hy; omega⟩ : w6.heap.size ≤ y ∧ y < ma ∧ y < w9.heap.size))
    have HFA := Lib.hid hfa
    have HAN := Lib.hid hand
    have hma9 := hma.lt
    have hmm9 := hmb.ext hx69
    have hm9 := hmok.ext hx69
    have hb9 := hb6.ext hx69
    have hw9 := hw6.trans hx69
    have hma6 : w6.heap.size ≤ ma := by omega
    have s69 := hx69.size
    clear hx7 hx8 hx9 hk9 ez sz hz hfa hand halt s7 s9 hmb hmok hb6
    try simp only [Act.put, List.setIfInBounds_toArray, List.set_cons_succ, List.set_cons_zero]
    go_upto_region 8 with (first
      | (refine wpl_loadNd rfl _ rfl mm 0 hd _ rfl hmm9.nd ?_)
      | (go_at_call 16; refine (HE.out _ svm hw9 hm9).mono ?_; rintro e wa ⟨svb, rfl, hba, hxa⟩)
      | (refine wpl_allocNd rfl rfl ?_; intro mb wb hz hxb ez sz)
      | (refine wpl_storeNd rfl _ _ rfl rfl mb xh _ svb _ rfl rfl hba.ok.sl hz ?_; intro wc hmb hkc; have hxc := hxb.keep1 hkc ez))
    have hx9c := hxa.trans hxc
    have sa := hxa.size
    have sc := hxc.size
    have hbb := hba.ext hxc
    have hmbc := hmb.lt
    have hmmc := hmm9.ext hx9c
    have hmac := hma.ext hx9c
    have hmc := hm9.ext hx9c
    have hbc := hb9.ext hx9c
    have hwc := hw9.trans hx9c
    have hmb9 : w9.heap.size ≤ mb := by omega
    have s9c := hx9c.size
    clear hxa hxb hxc hkc ez sz hz hba sa sc hmm9 hma hm9 hb9 HE
    try simp only [Act.put, List.setIfInBounds_toArray, List.set_cons_succ, List.set_cons_zero]
    go_upto_region 9 with (first
      | (refine wpl_loadNd rfl _ rfl b 0 hd _ rfl hbc.nd ?_)
      | (go_at_call 19; refine (HX.out _ hwc).mono ?_; rintro e wd ⟨svw, rfl, hwd, hxd⟩)
      | (refine wpl_allocNd rfl rfl ?_; intro mw we hz hxe ez sz)
      | (refine wpl_storeNd rfl _ _ rfl rfl mw xh _ svw _ rfl rfl hwd.ok.sl hz ?_; intro wf hmw hkf; have hxf := hxe.keep1 hkf ez))
    have hxcf := hxd.trans hxf
    have sd := hxd.size
    have sf := hxf.size
    have hwf := hwd.ext hxf
    have hmwf := hmw.lt
    have hmmf := hmmc.ext hxcf
    have hmaf := hmac.ext hxcf
    have hmbf := hmb.ext hxcf
    have hbf := hbc.ext hxcf
    have hmf := hmc.ext hxcf
    have hbbf := hbb.ext hxcf
    have hx6f := (hx69.trans hx9c).trans hxcf
    have hx9f := hx9c.trans hxcf
    have hfaf := Lib.hid (HFA.out.ext hx9f (fun b hb => (HAL.out b hb).2.2))
    have hfmf := Lib.hid (HFM.out.ext hx6f (fun b hb => (HML.out b hb).2.2))
    have hww := hwc.trans hxcf
    have hmwc : wc.heap.size ≤ mw := by omega
    have scf := hxcf.size
    clear hxd hxe hxf hkf ez sz hz hwd sd sf hmmc hmac hmb hbc hmc hbb HX HFA HFM hx69 hx9c hxcf hx6f hx9f hw6 hw9 hwc
    try simp only [Act.put, List.setIfInBounds_toArray, List.set_cons_succ, List.set_cons_zero]
    refine wp_region_plus (by kernel_rfl) (by kernel_rfl) ?_
    repeat (first
      | (refine wpQuiet_loadNd _ rfl rfl ma 0 xh _ rfl hmaf.nd ?_; simp only [Act.put, List.setIfInBounds_toArray, List.set_cons_succ, List.set_cons_zero])
      | (refine wpQuiet_loadNd _ rfl rfl mw 0 xh _ rfl hmw.nd ?_; simp only [Act.put, List.setIfInBounds_toArray, List.set_cons_succ, List.set_cons_zero])
      | (refine wpQuiet_loadNd _ rfl rfl mm 0 hd _ rfl hmmf.nd ?_; simp only [Act.put, List.setIfInBounds_toArray, List.set_cons_succ, List.set_cons_zero])
      | (refine wpQuiet_loadNd _ rfl rfl b 0 hd _ rfl hbf.nd ?_; simp only [Act.put, List.setIfInBounds_toArray, List.set_cons_succ, List.set_cons_zero])
      | (go_big_quiet_step (first
        | (go_at_call 20; exact Calls.plus_of (HNum.out _ (hww.trans (plus_ext _ _))))
        | (go_at_call 21; with_reducible exact Calls.plus_of (HS.out _ _ _ (hfaf.out.ok.ext (plus_ext _ _)) (hwf.ok.ext (plus_ext _ _))))
        | (go_at_call 21; with_reducible exact Calls.plus_of (HS2.out _ _ _ (hmf.ext (plus_ext _ _)) (HNO.out.ext (hww.trans (plus_ext _ _)))))
        | (go_at_call 22; exact Calls.plus_of (HP1.out _ _ (hww.trans (plus_ext _ _)) (hmf.ext (plus_ext _ _))))
        | (go_at_call 23; exact Calls.plus_of (HP2.out _ (hww.trans (plus_ext _ _)))))))
    refine wpQuiet_nil ?_
    intro y
    have hyg := plus_ext wf y
    have hmmg := hmmf.ext hyg
    have hmag := hmaf.ext hyg
    have hmbg := hmbf.ext hyg
    have hmwg := hmw.ext hyg
    have s6c : w6.heap.size ≤ wf.heap.size := by omega
    have hfag := Lib.hid (hfaf.out.ext hyg (fun b hb => by have := HAL.out b hb; omega))
    have hfmg := Lib.hid (hfmf.out.ext hyg (fun b hb => by have := HML.out b hb; omega))
    have hwg := hwf.ext hyg
    have hbg := hbbf.ext hyg
    have hwwg := hww.trans hyg
    have sg := hyg.size
    generalize plus wf y = wg at *
    clear hmmf hmaf hmbf hmw hfaf hfmf hwf hbbf hww hyg hbf hmf
    have HSPm := Lib.hid (HSP.out svm fpm wg hfmg.out HMN.out (fun b hb => by have := HML.out b hb; omega))
    go_upto_region 12 with (first
      | (refine wpl_loadNd rfl _ rfl mm 0 hd _ rfl hmmg.nd ?_)
      | (go_at_call 24; refine HSPm.out.mono ?_; rintro e wh ⟨rfl, hkh⟩))
    have hmah := hmag.keeps hkh (fun e => by have := HML.out _ e; omega)
    have hmbh := hmbg.keeps hkh (fun e => by have := HML.out _ e; omega)
    have hmwh := hmwg.keeps hkh (fun e => by have := HML.out _ e; omega)
    have hfah := Lib.hid (hfag.out.keep (fun b hb => hkh.block b (by have := HAL.out b hb; omega) (fun e => by have := HML.out b e; have := HAL.out b hb; omega)))
    have hwh := hwg.keeps hkh (fun b hb _ e => by have := HML.out b e; omega)
    have hbh := hbg.keeps hkh (fun b hb _ e => by have := HML.out b e; omega)
    have hwwh := hwwg.keeps hkh (fun b hb e => by have := HML.out b e; omega)
    have sh := hkh.size
    clear hmag hmbg hmwg hfag hfmg hwg hbg hwwg hkh hmmg HSPm
    try simp only [Act.put, List.setIfInBounds_toArray, List.set_cons_succ, List.set_cons_zero]
    go_upto_region 14 with (first
      | (refine wpl_loadNd rfl _ rfl ma 0 xh _ rfl hmah.nd ?_)
      | (refine wpl_loadNd rfl _ rfl mw 0 xh _ rfl hmwh.nd ?_)
      | (go_at_call 21; refine (HS.out _ _ _ hfah.out.ok hwh.ok).mono ?_; rintro e wi ⟨rfl, hxi⟩))
    have hmai := hmah.ext hxi
    have hmbi := hmbh.ext hxi
    have hmwi := hmwh.ext hxi
    have hfai := hfah.out.ext hxi (fun b hb => by have := HAL.out b hb; omega)
    have hwi := hwh.ext hxi
    have hbi := hbh.ext hxi
    have hwwi := hwwh.trans hxi
    have si := hxi.size
    have HSFa := Lib.hid (HSF.out sva fpa wi ma hfai HAN.out (fun b hb => by have := HAL.out b hb; omega) hmai (fun e => by have := HAL.out _ e; omega))
    unfold SpF at HSFa
    clear hmah hmbh hmwh hfah hwh hbh hwwh hxi hfai hmai
    try simp only [Act.put, List.setIfInBounds_toArray, List.set_cons_succ, List.set_cons_zero]
    go_upto_region 15 with (first
      | (go_at_call 25; refine HSFa.out.mono ?_; rintro e wj ⟨rfl, hkj⟩))
    have hmbj := hmbi.keeps hkj (fun e => by have := HAL.out _ e; omega)
    have hmwj := hmwi.keeps hkj (fun e => by have := HAL.out _ e; omega)
    have hwj := hwi.keeps hkj (fun b hb _ e => by have := HAL.out b e; omega)
    have hbj := hbi.keeps hkj (fun b hb _ e => by have := HAL.out b e; omega)
    have hwwj := hwwi.keeps hkj (fun b hb e => by have := HAL.out b e; omega)
    clear hmbi hmwi hwi hbi hwwi hkj HSFa
    try simp only [Act.put, List.setIfInBounds_toArray, List.set_cons_succ, List.set_cons_zero]
    go_wp2_with (first
      | (refine wpl_loadNd rfl _ rfl mb 0 xh _ rfl hmbj.nd ?_)
      | (refine wpl_loadNd rfl _ rfl mw 0 xh _ rfl hmwj.nd ?_)
      | (go_at_call 21; refine (HS.out _ _ _ hbj.ok hwj.ok).mono ?_; rintro e wk ⟨rfl, hxk⟩))
    go_ret
    exact ⟨rfl, hwwj.trans hxk⟩
  · have hd0 : decide (0 ≤ leftN n 3000) = false := by simpa using hf
    rw [hd0] at HF
    clear hE hn hd0 hf
    generalize n.h = hd at *
    go_enter Tryd.func4, Tryd.ntmps4
    go_upto_region 1 with (refine wpl_boxNd rfl _ rfl hd _ rfl ?_; intro b w1 hb hx1 eb sb)
    go_wp2_with (first
      | (go_at_call 14; refine (HL.out _ hx1).mono ?_; rintro e w2 ⟨rfl, hx2⟩)
      | (refine wpl_loadNd rfl _ rfl b 0 hd _ rfl (hb.ext hx2).nd ?_)
      | (go_at_call 15; refine (HF.out _ (hx1.trans hx2)).mono ?_; rintro e w3 ⟨rfl, hx3⟩))
    go_ret
    exact ⟨rfl, (hx1.trans hx2).trans hx3⟩

end Go.Proofs.YthddlhpndaffjaaDoor
