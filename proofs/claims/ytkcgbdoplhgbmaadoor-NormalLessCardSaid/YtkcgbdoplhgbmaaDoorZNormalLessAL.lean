/- NormalMakes as a walk, its fixed facts. Condition: the tree lies in memory, clean; the error values lie where they lie. trawlref04.Nodes and tree.Size as contracts. Condition: the tree lies in memory, its lists are short. NormalLess as a walk. Condition: the tree lies in memory, clean; the error values lie where they lie. -/
import Derived.Test.YtkcgbdoplhgbmaaDoorZNormalLessAK
import Derived.Test.YtkcgbdoplhgbmaaDoorZNormalLessAE
import Derived.Test.YtkcgbdoplhgbmaaDoorNodeW
import Derived.Test.YtkcgbdoplhgbmaaDoorExpP
import Derived.Test.YtkcgbdoplhgbmaaDoorZNormalLessAC
import Derived.Test.YtkcgbdoplhgbmaaDoorNrmL
namespace Go.Proofs.YtkcgbdoplhgbmaaDoor
open Go Go.RowKit

theorem rep25_chk : chkN rep25 = 0 := by
  unfold chkN
  rw [rep25_form]
  have h1 : depthN rep25 = 4 := by simp [rep25, starA, leafN, depthN, depthA, deepB]; decide
  have h2 : sizeN rep25 = 14 := by simp [rep25, starA, leafN, sizeN, sizeA, roundsZ]; decide
  rw [h1, h2]
  decide
theorem starA_small : smallN starA := ⟨by simp, ⟨by simp, trivial⟩, trivial⟩
theorem rep25_small : smallN rep25 := ⟨by simp, starA_small, trivial⟩

set_option maxRecDepth 100000 in
set_option maxHeartbeats 4000000 in
theorem lives15_any (w : World) (A : Nat → Addr) (hE : Err3 w A) :
    Calls Tryd.prog 13 #[] w fun r w' => r = .returned (.bool true) ∧ Ext w w' := by
  have HT := Lib.hid (fun W => (by exact text_any { data := #[97] } W (by decide) : Calls Tryd.prog 56 #[.string { data := #[97] }] W (RetNd W (leafN 97))))
  have HR1 := Lib.hid (fun W sv (hW : NdOk W (leafN 97) sv) => (by exact rep_any (leafN 97) sv 0 (-1) W hW ⟨by simp, trivial⟩ : Calls Tryd.prog 55 #[nodeV (leafN 97).h sv, .int .i64 0, .int .i64 (-1)] W (RetNd W starA)))
  have HR2 := Lib.hid (fun W sv (hW : NdOk W starA sv) => (by exact rep_any starA sv 2 5 W hW starA_small : Calls Tryd.prog 55 #[nodeV starA.h sv, .int .i64 2, .int .i64 5] W (RetNd W rep25)))
  have HX := Lib.hid (fun W sv (hW : NdOk W rep25 sv) (hx : Ext w W) => (by
    have := normal_any rep25 sv W A 100 hW rep25_cl (hE.ext hx) (by decide) (by simp [rep25, starA, leafN, leftN, leftL])
    rwa [rep25_norm, rep25_chk] at this : Calls Tryd.prog 16 #[nodeV rep25.h sv] W (RetNdE W A starA 0)))
  have HS := Lib.hid (fun W a b (ha : NdOk W starA a) (hb : NdOk W starA b) => (by
    have := sameNodes_any _ a _ b W ha hb starA_small
    rwa [sameN_refl] at this : Calls Tryd.prog 19 #[nodeV starA.h a, nodeV starA.h b] W fun r w' => r = .returned (.bool true) ∧ Ext W w'))
  have HF1 := Lib.hid (fun W a (ha : NdOk W starA a) => (by
    have := free_any _ a W ha starA_small
    rwa [star_free] at this : Calls Tryd.prog 20 #[nodeV starA.h a] W fun r w' => r = .returned (.bool true) ∧ Ext W w'))
  have HG := Lib.hid (fun W a (ha : NdOk W starA a) => group_any 1 _ a W ha starA_small)
  have HF2 := Lib.hid (fun W a (ha : NdOk W (.mk ⟨7, noS, 1, 0, 0, false⟩ [starA]) a) => (by
    have := free_any _ a W ha ⟨by simp, starA_small, trivial⟩
    rwa [show freeN (.mk ⟨7, noS, 1, 0, 0, false⟩ [starA]) = false by rw [freeN]; rfl] at this : Calls Tryd.prog 20 #[nodeV ⟨7, noS, 1, 0, 0, false⟩ a] W fun r w' => r = .returned (.bool false) ∧ Ext W w'))
  clear hE
  have he0 : errR A 0 = .nilIface := rfl
  go_enter Tryd.func13, Tryd.ntmps13
  go_upto_region 2 with (first
    | (go_at_call 56; refine (HT.out _).mono ?_; rintro e w1 ⟨sv1, rfl, hn1, hx1⟩)
    | (go_at_call 55; refine (HR1.out _ sv1 hn1.ok).mono ?_; rintro e w2 ⟨sv2, rfl, hn2, hx2⟩)
    | (refine wpl_allocNd rfl rfl ?_; intro s w4 hs hx4 es ss)
    | (refine wpl_storeNd rfl _ _ rfl rfl s starA.h _ sv2 _ rfl rfl hn2.ok.sl hs ?_; intro w5 hs5 hk5; have hx5 := hx4.keep1 hk5 es))
  have hxw := (hx1.trans hx2).trans hx5
  have hok := Lib.hid (show NdOk w5 starA sv2 from hn2.ok.ext hx5)
  clear hn1 hn2 hx1 hx2 hx4 hx5 hk5 es hs
  try simp only [Act.put, List.setIfInBounds_toArray, List.set_cons_succ, List.set_cons_zero]
  go_upto_region 3 with (first
    | (refine wpl_loadNd rfl _ rfl s 0 starA.h sv2 rfl hs5.nd ?_)
    | (go_at_call 55; refine (HR2.out _ sv2 hok.out).mono ?_; rintro e w6 ⟨sv6, rfl, hn6, hx6⟩)
    | (go_at_call 16; refine (HX.out _ sv6 hn6.ok (hxw.trans hx6)).mono ?_; rintro e w7 ⟨sv7, rfl, hn7, hx7⟩)
    | (refine wpl_allocNd rfl rfl ?_; intro t w8 ht hx8 et st)
    | (refine wpl_storeNd rfl _ _ rfl rfl t starA.h _ sv7 _ rfl rfl hn7.ok.sl ht ?_; intro w9 ht9 hk9; have hx9 := hx8.keep1 hk9 et))
  have hx59 := (hx6.trans hx7).trans hx9
  have hok7 := Lib.hid (show NdOk w9 starA sv7 from (show NdNew w6.heap.size w7 starA sv7 from hn7).ok.ext hx9)
  have hok9 := Lib.hid (hok.out.ext hx59)
  have hs9 := hs5.ext hx59
  have hxw9 := hxw.trans hx59
  clear hn6 hn7 hx6 hx7 hx8 hx9 hk9 et ht hx59 hok hs5 hxw HX HR1 HR2 HT
  try simp only [Act.put, List.setIfInBounds_toArray, List.set_cons_succ, List.set_cons_zero]
  go_wp2_with (first
    | (refine wpl_loadNdG _ rfl rfl t 0 starA.h sv7 rfl ht9.nd ?_)
    | (refine wpl_loadNdG _ rfl rfl s 0 starA.h sv2 rfl hs9.nd ?_)
    | (go_at_call 19; refine (HS.out _ _ _ hok7.out hok9.out).mono ?_; rintro e wa ⟨rfl, hxa⟩)
    | (refine wpl_loadNdG _ rfl rfl s 0 starA.h sv2 rfl (hs9.ext hxa).nd ?_)
    | (go_at_call 20; (with_reducible refine (HF1.out _ _ (hok9.out.ext hxa)).mono ?_); rintro e wb ⟨rfl, hxb⟩)
    | (refine wpl_loadNdG _ rfl rfl s 0 starA.h sv2 rfl (hs9.ext (hxa.trans hxb)).nd ?_)
    | (go_at_call 57; refine (HG.out _ _ (hok9.out.ext (hxa.trans hxb))).mono ?_; rintro e wc ⟨svc, rfl, hnc, hxc⟩)
    | (go_at_call 20; refine (HF2.out _ _ hnc.ok).mono ?_; rintro e wd ⟨rfl, hxd⟩))
  go_ret
  exact ⟨rfl, (((hxw9.trans hxa).trans hxb).trans hxc).trans hxd⟩

theorem NdNew.keeps {B : Nat} {W W' : World} {F : Nat → Prop} {n : Nd} {sv : Value} (h : NdNew B W n sv) (hk : Keeps F W W') (hF : ∀ b, B ≤ b → b < W.heap.size → ¬ F b) : NdNew B W' n sv := by
  obtain ⟨fp, h1, h2, h3⟩ := h
  exact ⟨fp, h1.keep (fun b hb => sameAt_of_block (hk.block b (h3 b hb).2 (hF b (h3 b hb).1 (h3 b hb).2))), h2, fun b hb => ⟨(h3 b hb).1, Nat.lt_of_lt_of_le (h3 b hb).2 hk.size⟩⟩

set_option maxRecDepth 100000 in
set_option maxHeartbeats 4000000 in
theorem normalMakes_walk (n : Nd) (sv : Value) (w : World) (A : Nat → Addr) (hn : NdOk w n sv) (hc : clN n) (hE : ErrsAt w A) :
    Calls Tryd.prog 3 #[nodeV n.h sv] w fun r w' => r = .returned (.bool true) ∧ Ext w w' := by
  have HL := Lib.hid (fun W (hW : Ext w W) => lives15_any W A (hE.three.ext hW))
  have HF := Lib.hid (fun W (hW : Ext w W) => few_any n sv 2000 W (NdOk.ext hW _ _ hn) (by omega) (by omega))
  by_cases hf : 0 ≤ leftN n 2000
  · have hsm := small_left n 2000 (by omega) hf
    have hsx : smallN (resN (normN n) (chkN n)) := small_res fun hk => cnt_small _ (Nat.le_trans (cnt_norm n ⟨(chk_ok hk).1, hc⟩) (few_cnt (by omega) hf))
    have HC := Lib.hid (fun W (hW : Ext w W) => (by exact copyNode_any n sv W (hn.ext hW) hsm : Calls Tryd.prog 15 #[nodeV n.h sv] W fun r w' => ∃ s, r = .returned (nodeV n.h s) ∧ NdNew W.heap.size w' n s ∧ Ext W w'))
    have HE := Lib.hid (fun W sv' (hW : Ext w W) (hn' : NdOk W n sv') => (by exact normal_any n sv' W A 2000 hn' hc (hE.three.ext hW) (by omega) hf : Calls Tryd.prog 16 #[nodeV n.h sv'] W fun r w' => ∃ sva, r = .returned (.tuple #[nodeV (resN (normN n) (chkN n)).h sva, errR A (chkN n)]) ∧ NdNew W.heap.size w' (resN (normN n) (chkN n)) sva ∧ Ext W w'))
    have HX := Lib.hid (fun W (hW : Ext w W) => (by exact rnormal_any n sv W 2000 (hn.ext hW) hc (by omega) hf : Calls Tryd.prog 17 #[nodeV n.h sv] W fun r w' => ∃ sva, r = .returned (.tuple #[nodeV (resN (normN n) (chkN n)).h sva, .int .i64 (chkN n)]) ∧ NdB W.heap.size w' (resN (normN n) (chkN n)) sva ∧ Ext W w'))
    have HNum := Lib.hid (fun W (hW : Ext w W) => num_errR A (chkN n) W (chk_le n) (hE.ext hW))
    have HS := Lib.hid (fun W a b (ha : NdOk W (resN (normN n) (chkN n)) a) (hb : NdOk W (resN (normN n) (chkN n)) b) => (by
      have := sameNodes_any _ a _ b W ha hb hsx
      rwa [sameN_refl] at this : Calls Tryd.prog 19 #[nodeV (resN (normN n) (chkN n)).h a, nodeV (resN (normN n) (chkN n)).h b] W fun r w' => r = .returned (.bool true) ∧ Ext W w'))
    have HS2 := Lib.hid (fun W a b (ha : NdOk W n a) (hb : NdOk W n b) => (by
      have := sameNodes_any _ a _ b W ha hb hsm
      rwa [sameN_refl] at this : Calls Tryd.prog 19 #[nodeV n.h a, nodeV n.h b] W fun r w' => r = .returned (.bool true) ∧ Ext W w'))
    have HP1 := Lib.hid (fun W sv' (_ : Ext w W) (hn' : NdOk W n sv') => free_any n sv' W hn' hsm)
    have HP2 := Lib.hid (fun W (hW : Ext w W) => rfree_any n sv W (hn.ext hW) hsm)
    have HSP := Lib.hid (fun sv' fp W (h : NdFp W n sv' fp) hnd hlt => spoil_any n n.h sv' fp W (by obtain ⟨a, b⟩ := n; exact h) hnd hlt hsm)
    have HSX := Lib.hid (fun sv' fp W (h : NdFp W (resN (normN n) (chkN n)) sv' fp) hnd hlt => spoil_any (resN (normN n) (chkN n)) (resN (normN n) (chkN n)).h sv' fp W (by generalize resN (normN n) (chkN n) = q at *; obtain ⟨a, b⟩ := q; exact h) hnd hlt hsx)
    have HFew := Lib.hid hf
    have HNO := Lib.hid hn
    clear hE hn hsm hsx hf hc
    generalize leftN n 2000 = lf at *
    generalize resN (normN n) (chkN n) = x at *
    generalize freeN n = pb at *
    generalize errR A (chkN n) = ev at *
    generalize chkN n = ck at *
    have hfd : decide (0 ≤ lf) = true := by simpa using HFew.out
    rw [hfd] at HF
    clear hfd
    generalize n.h = hd at *
    generalize x.h = xh at *
    go_enter Tryd.func3, Tryd.ntmps3
    go_upto_region 6 with (first
      | (refine wpl_boxNd rfl _ rfl hd _ rfl ?_; intro b w1 hb hx1 eb sb)
      | (go_at_call 13; refine (HL.out _ hx1).mono ?_; rintro e w2 ⟨rfl, hx2⟩)
      | (refine wpl_loadNd rfl _ rfl b 0 hd _ rfl (hb.ext hx2).nd ?_)
      | (go_at_call 14; refine (HF.out _ (hx1.trans hx2)).mono ?_; rintro e w3 ⟨rfl, hx3⟩)
      | (refine wpl_loadNd rfl _ rfl b 0 hd _ rfl (hb.ext (hx2.trans hx3)).nd ?_)
      | (go_at_call 15; refine (HC.out _ ((hx1.trans hx2).trans hx3)).mono ?_; rintro e w4 ⟨svm, rfl, hm4, hx4⟩)
      | (refine wpl_allocNd rfl rfl ?_; intro mm w5 hz hx5 ez sz)
      | (refine wpl_storeNd rfl _ _ rfl rfl mm hd _ svm _ rfl rfl hm4.ok.sl hz ?_; intro w6 hmb hk6; have hx6 := hx5.keep1 hk6 ez))
    obtain ⟨fpm, hfm, hmnd, hmlt⟩ := hm4
    have hwm : Ext w w3 := (hx1.trans hx2).trans hx3
    have hw6 : Ext w w6 := (hwm.trans hx4).trans hx6
    have hb6 := hb.ext (((hx2.trans hx3).trans hx4).trans hx6)
    replace hfm := hfm.ext hx6 (fun b hb => (hmlt b hb).2)
    have s3 := hwm.size
    have s4 := hx6.size
    have HML := Lib.hid (fun y (hy : y ∈ fpm) => (⟨by have := hmlt y hy; omega, by have := hmlt y hy; omega, by have := hmlt y hy; omega⟩ : w.heap.size ≤ y ∧ y < mm ∧ y < w6.heap.size))
    have HFM := Lib.hid hfm
    have HMN := Lib.hid hmnd
    have hmm6 := hmb.lt
    have s6w : w.heap.size ≤ w6.heap.size := hw6.size
    have hmok := hfm.ok
    clear hb hx1 hx2 hx3 hx4 hx5 hx6 hk6 ez sz hz eb sb hfm hmnd hmlt hwm s3 s4 HL HF HC
    try simp only [Act.put, List.setIfInBounds_toArray, List.set_cons_succ, List.set_cons_zero]
    go_upto_region 7 with (first
      | (refine wpl_loadNd rfl _ rfl mm 0 hd _ rfl hmb.nd ?_)
      | (go_at_call 16; refine (HE.out _ svm hw6 hmok).mono ?_; rintro e w7 ⟨sva, rfl, ha7, hx7⟩)
      | (refine wpl_allocNd rfl rfl ?_; intro ma w8 hz hx8 ez sz)
      | (refine wpl_storeNd rfl _ _ rfl rfl ma xh _ sva _ rfl rfl ha7.ok.sl hz ?_; intro w9 hma hk9; have hx9 := hx8.keep1 hk9 ez))
    obtain ⟨fpa, hfa, hand, halt⟩ := ha7
    have hx69 := hx7.trans hx9
    replace hfa := hfa.ext hx9 (fun b hb => (halt b hb).2)
    have s7 := hx7.size
    have s9 := hx9.size
    have HAL := Lib.hid (fun y (hy : y ∈ fpa) => (⟨by have := halt y hy; omega, by have := halt y hy; omega, by have := halt y hy; omega⟩ : w6.heap.size ≤ y ∧ y < ma ∧ y < w9.heap.size))
    have HFA := Lib.hid hfa
    have HAN := Lib.hid hand
    have hma9 := hma.lt
    have hmm9 := hmb.ext hx69
    have hm9 := hmok.ext hx69
    have hb9 := hb6.ext hx69
    have hw9 := hw6.trans hx69
    have hma6 : w6.heap.size ≤ ma := by omega
    have s69 := hx69.size
    clear hx7 hx8 hx9 hk9 ez sz hz hfa hand halt s7 s9 hmb hmok hb6
    try simp only [Act.put, List.setIfInBounds_toArray, List.set_cons_succ, List.set_cons_zero]
    go_upto_region 8 with (first
      | (refine wpl_loadNd rfl _ rfl mm 0 hd _ rfl hmm9.nd ?_)
      | (go_at_call 16; refine (HE.out _ svm hw9 hm9).mono ?_; rintro e wa ⟨svb, rfl, hba, hxa⟩)
      | (refine wpl_allocNd rfl rfl ?_; intro mb wb hz hxb ez sz)
      | (refine wpl_storeNd rfl _ _ rfl rfl mb xh _ svb _ rfl rfl hba.ok.sl hz ?_; intro wc hmb hkc; have hxc := hxb.keep1 hkc ez))
    have hx9c := hxa.trans hxc
    have sa := hxa.size
    have sc := hxc.size
    have hbb := hba.ext hxc
    have hmbc := hmb.lt
    have hmmc := hmm9.ext hx9c
    have hmac := hma.ext hx9c
    have hmc := hm9.ext hx9c
    have hbc := hb9.ext hx9c
    have hwc := hw9.trans hx9c
    have hmb9 : w9.heap.size ≤ mb := by omega
    have s9c := hx9c.size
    clear hxa hxb hxc hkc ez sz hz hba sa sc hmm9 hma hm9 hb9 HE
    try simp only [Act.put, List.setIfInBounds_toArray, List.set_cons_succ, List.set_cons_zero]
    go_upto_region 9 with (first
      | (refine wpl_loadNd rfl _ rfl b 0 hd _ rfl hbc.nd ?_)
      | (go_at_call 17; refine (HX.out _ hwc).mono ?_; rintro e wd ⟨svw, rfl, hwd, hxd⟩)
      | (refine wpl_allocNd rfl rfl ?_; intro mw we hz hxe ez sz)
      | (refine wpl_storeNd rfl _ _ rfl rfl mw xh _ svw _ rfl rfl hwd.ok.sl hz ?_; intro wf hmw hkf; have hxf := hxe.keep1 hkf ez))
    have hxcf := hxd.trans hxf
    have sd := hxd.size
    have sf := hxf.size
    have hwf := hwd.ext hxf
    have hmwf := hmw.lt
    have hmmf := hmmc.ext hxcf
    have hmaf := hmac.ext hxcf
    have hmbf := hmb.ext hxcf
    have hbf := hbc.ext hxcf
    have hmf := hmc.ext hxcf
    have hbbf := hbb.ext hxcf
    have hx6f := (hx69.trans hx9c).trans hxcf
    have hx9f := hx9c.trans hxcf
    have hfaf := Lib.hid (HFA.out.ext hx9f (fun b hb => (HAL.out b hb).2.2))
    have hfmf := Lib.hid (HFM.out.ext hx6f (fun b hb => (HML.out b hb).2.2))
    have hww := hwc.trans hxcf
    have hmwc : wc.heap.size ≤ mw := by omega
    have scf := hxcf.size
    clear hxd hxe hxf hkf ez sz hz hwd sd sf hmmc hmac hmb hbc hmc hbb HX HFA HFM hx69 hx9c hxcf hx6f hx9f hw6 hw9 hwc
    try simp only [Act.put, List.setIfInBounds_toArray, List.set_cons_succ, List.set_cons_zero]
    refine wp_region_plus (by kernel_rfl) (by kernel_rfl) ?_
    repeat (first
      | (refine wpQuiet_loadNd _ rfl rfl ma 0 xh _ rfl hmaf.nd ?_; simp only [Act.put, List.setIfInBounds_toArray, List.set_cons_succ, List.set_cons_zero])
      | (refine wpQuiet_loadNd _ rfl rfl mw 0 xh _ rfl hmw.nd ?_; simp only [Act.put, List.setIfInBounds_toArray, List.set_cons_succ, List.set_cons_zero])
      | (refine wpQuiet_loadNd _ rfl rfl mm 0 hd _ rfl hmmf.nd ?_; simp only [Act.put, List.setIfInBounds_toArray, List.set_cons_succ, List.set_cons_zero])
      | (refine wpQuiet_loadNd _ rfl rfl b 0 hd _ rfl hbf.nd ?_; simp only [Act.put, List.setIfInBounds_toArray, List.set_cons_succ, List.set_cons_zero])
      | (go_big_quiet_step (first
        | (go_at_call 18; exact Calls.plus_of (HNum.out _ (hww.trans (plus_ext _ _))))
        | (go_at_call 19; with_reducible exact Calls.plus_of (HS.out _ _ _ (hfaf.out.ok.ext (plus_ext _ _)) (hwf.ok.ext (plus_ext _ _))))
        | (go_at_call 19; with_reducible exact Calls.plus_of (HS2.out _ _ _ (hmf.ext (plus_ext _ _)) (HNO.out.ext (hww.trans (plus_ext _ _)))))
        | (go_at_call 20; exact Calls.plus_of (HP1.out _ _ (hww.trans (plus_ext _ _)) (hmf.ext (plus_ext _ _))))
        | (go_at_call 21; exact Calls.plus_of (HP2.out _ (hww.trans (plus_ext _ _)))))))
    refine wpQuiet_nil ?_
    intro y
    have hyg := plus_ext wf y
    have hmmg := hmmf.ext hyg
    have hmag := hmaf.ext hyg
    have hmbg := hmbf.ext hyg
    have hmwg := hmw.ext hyg
    have s6c : w6.heap.size ≤ wf.heap.size := by omega
    have hfag := Lib.hid (hfaf.out.ext hyg (fun b hb => by have := HAL.out b hb; omega))
    have hfmg := Lib.hid (hfmf.out.ext hyg (fun b hb => by have := HML.out b hb; omega))
    have hwg := hwf.ext hyg
    have hbg := hbbf.ext hyg
    have hwwg := hww.trans hyg
    have sg := hyg.size
    generalize plus wf y = wg at *
    clear hmmf hmaf hmbf hmw hfaf hfmf hwf hbbf hww hyg hbf hmf
    have HSPm := Lib.hid (HSP.out svm fpm wg hfmg.out HMN.out (fun b hb => by have := HML.out b hb; omega))
    go_upto_region 12 with (first
      | (refine wpl_loadNd rfl _ rfl mm 0 hd _ rfl hmmg.nd ?_)
      | (go_at_call 22; refine HSPm.out.mono ?_; rintro e wh ⟨rfl, hkh⟩))
    have hmah := hmag.keeps hkh (fun e => by have := HML.out _ e; omega)
    have hmbh := hmbg.keeps hkh (fun e => by have := HML.out _ e; omega)
    have hmwh := hmwg.keeps hkh (fun e => by have := HML.out _ e; omega)
    have hfah := Lib.hid (hfag.out.keep (fun b hb => hkh.block b (by have := HAL.out b hb; omega) (fun e => by have := HML.out b e; have := HAL.out b hb; omega)))
    have hwh := hwg.keeps hkh (fun b hb _ e => by have := HML.out b e; omega)
    have hbh := hbg.keeps hkh (fun b hb _ e => by have := HML.out b e; omega)
    have hwwh := hwwg.keeps hkh (fun b hb e => by have := HML.out b e; omega)
    have sh := hkh.size
    clear hmag hmbg hmwg hfag hfmg hwg hbg hwwg hkh hmmg HSPm
    try simp only [Act.put, List.setIfInBounds_toArray, List.set_cons_succ, List.set_cons_zero]
    go_upto_region 14 with (first
      | (refine wpl_loadNd rfl _ rfl ma 0 xh _ rfl hmah.nd ?_)
      | (refine wpl_loadNd rfl _ rfl mw 0 xh _ rfl hmwh.nd ?_)
      | (go_at_call 19; refine (HS.out _ _ _ hfah.out.ok hwh.ok).mono ?_; rintro e wi ⟨rfl, hxi⟩))
    have hmai := hmah.ext hxi
    have hmbi := hmbh.ext hxi
    have hmwi := hmwh.ext hxi
    have hfai := hfah.out.ext hxi (fun b hb => by have := HAL.out b hb; omega)
    have hwi := hwh.ext hxi
    have hbi := hbh.ext hxi
    have hwwi := hwwh.trans hxi
    have si := hxi.size
    have HSFa := Lib.hid (HSX.out sva fpa wi hfai HAN.out (fun b hb => by have := HAL.out b hb; omega))
    have hmaj := hmai
    clear hmah hmbh hmwh hfah hwh hbh hwwh hxi hfai hmai
    try simp only [Act.put, List.setIfInBounds_toArray, List.set_cons_succ, List.set_cons_zero]
    go_upto_region 15 with (first
      | (refine wpl_loadNd rfl _ rfl ma 0 xh _ rfl hmaj.nd ?_)
      | (go_at_call 22; refine HSFa.out.mono ?_; rintro e wj ⟨rfl, hkj⟩))
    have hmbj := hmbi.keeps hkj (fun e => by have := HAL.out _ e; omega)
    have hmwj := hmwi.keeps hkj (fun e => by have := HAL.out _ e; omega)
    have hwj := hwi.keeps hkj (fun b hb _ e => by have := HAL.out b e; omega)
    have hbj := hbi.keeps hkj (fun b hb _ e => by have := HAL.out b e; omega)
    have hwwj := hwwi.keeps hkj (fun b hb e => by have := HAL.out b e; omega)
    clear hmbi hmwi hwi hbi hwwi hkj HSFa
    try simp only [Act.put, List.setIfInBounds_toArray, List.set_cons_succ, List.set_cons_zero]
    go_wp2_with (first
      | (refine wpl_loadNd rfl _ rfl mb 0 xh _ rfl hmbj.nd ?_)
      | (refine wpl_loadNd rfl _ rfl mw 0 xh _ rfl hmwj.nd ?_)
      | (go_at_call 19; refine (HS.out _ _ _ hbj.ok hwj.ok).mono ?_; rintro e wk ⟨rfl, hxk⟩))
    go_ret
    exact ⟨rfl, hwwj.trans hxk⟩
  · have hd0 : decide (0 ≤ leftN n 2000) = false := by simpa using hf
    rw [hd0] at HF
    clear hE hn hd0 hf hc
    generalize n.h = hd at *
    go_enter Tryd.func3, Tryd.ntmps3
    go_upto_region 1 with (refine wpl_boxNd rfl _ rfl hd _ rfl ?_; intro b w1 hb hx1 eb sb)
    go_wp2_with (first
      | (go_at_call 13; refine (HL.out _ hx1).mono ?_; rintro e w2 ⟨rfl, hx2⟩)
      | (refine wpl_loadNd rfl _ rfl b 0 hd _ rfl (hb.ext hx2).nd ?_)
      | (go_at_call 14; refine (HF.out _ (hx1.trans hx2)).mono ?_; rintro e w3 ⟨rfl, hx3⟩))
    go_ret
    exact ⟨rfl, (hx1.trans hx2).trans hx3⟩


end Go.Proofs.YtkcgbdoplhgbmaaDoor

namespace Go.Proofs.YtkcgbdoplhgbmaaDoor
open Go Go.RowKit

theorem min_ifm (a m : Int) : Min.min a m = if m < a then m else a := by rw [Int.min_def]; split <;> split <;> omega

set_option maxRecDepth 100000 in
set_option maxHeartbeats 4000000 in
theorem sizeT_any (n : Nd) (sv : Value) (w : World) (hn : NdOk w n sv) (hsm : smallN n) (hf : formB n = true) :
    Calls Tryd.prog 25 #[nodeV n.h sv] w fun r w' => r = .returned (.int .i64 (sizeN n)) ∧ Ext w w' := by
  have H1 := Lib.hid (fun W (hW : Ext w W) => (by have := form_any n sv W (hn.ext hW) hsm; rwa [hf] at this : Calls Tryd.prog 64 #[nodeV n.h sv] W fun r w' => r = .returned (.bool true) ∧ Ext W w'))
  have H2 := Lib.hid (fun W (hW : Ext w W) => size_any n sv W (hn.ext hW) hsm hf)
  clear hn hsm hf
  generalize sizeN n = sn at *
  generalize n.h = hd at *
  go_enter Tryd.func25, Tryd.ntmps25
  go_wp2_with (first
    | (refine wpl_boxNd rfl _ rfl hd _ rfl ?_; intro b w1 hb hx1 eb sb)
    | (refine wpl_loadNd rfl _ rfl b 0 hd _ rfl hb.nd ?_)
    | (go_at_call 64; refine (H1.out _ hx1).mono ?_; rintro e w2 ⟨rfl, hx2⟩)
    | (refine wpl_loadNd rfl _ rfl b 0 hd _ rfl (hb.ext hx2).nd ?_)
    | (go_at_call 65; refine (H2.out _ (hx1.trans hx2)).mono ?_; rintro e w3 ⟨rfl, hx3⟩))
  go_ret
  exact ⟨rfl, (hx1.trans hx2).trans hx3⟩

end Go.Proofs.YtkcgbdoplhgbmaaDoor

namespace Go.Proofs.YtkcgbdoplhgbmaaDoor
open Go Go.RowKit

theorem normal_ok (n : Nd) (sv : Value) (w : World) (A : Nat → Addr) (m : Int) (hn : NdOk w n sv) (hc : clN n) (hE : Err3 w A) (hm : m ≤ 1000000) (hfew : 0 ≤ leftN n m) (hk : chkN n = 0) :
    Calls Tryd.prog 16 #[nodeV n.h sv] w fun r w' => ∃ s, r = .returned (.tuple #[nodeV (normN n).h s, .nilIface]) ∧ NdNew w.heap.size w' (normN n) s ∧ Ext w w' := by
  have := normal_any n sv w A m hn hc hE hm hfew
  rw [hk] at this
  exact this
theorem normal_bad (n : Nd) (sv : Value) (w : World) (A : Nat → Addr) (m : Int) (hn : NdOk w n sv) (hc : clN n) (hE : Err3 w A) (hm : m ≤ 1000000) (hfew : 0 ≤ leftN n m) (hk : chkN n ≠ 0) :
    Calls Tryd.prog 16 #[nodeV n.h sv] w fun r w' => ∃ s, r = .returned (.tuple #[nodeV (hdV 0) s, errV (A (chkN n - 1))]) ∧ NdNew w.heap.size w' (.mk (hdV 0) []) s ∧ Ext w w' := by
  have := normal_any n sv w A m hn hc hE hm hfew
  unfold RetNdE resN errR at this
  rw [if_neg hk, if_neg hk] at this
  exact this
mutual
theorem cnt_nodes : ∀ (n : Nd), nodesN n = cntN n
  | .mk _ s => by rw [nodesN, cntN, cnt_nodesL s]; omega
theorem cnt_nodesL : ∀ (l : List Nd), nodesL l = cntL l
  | [] => by rw [nodesL, cntL]; rfl
  | n :: r => by rw [nodesL, cntL, cnt_nodes n, cnt_nodesL r]; omega
end
theorem left_of_cnt {n : Nd} {m : Int} (h : (cntN n : Int) ≤ m) : 0 ≤ leftN n m := left_few (by rw [cnt_nodes]; exact h)

set_option maxRecDepth 100000 in
set_option maxHeartbeats 4000000 in
theorem normalLess_walk (n : Nd) (sv : Value) (w : World) (A : Nat → Addr) (hn : NdOk w n sv) (hcl : clN n) (hE : ErrsAt w A) :
    Calls Tryd.prog 4 #[nodeV n.h sv] w fun r w' => r = .returned (.bool true) ∧ Ext w w' := by
  have HL := Lib.hid (fun W (hW : Ext w W) => lives15_any W A (hE.three.ext hW))
  have HF := Lib.hid (fun W (hW : Ext w W) => few_any n sv 2000 W (NdOk.ext hW _ _ hn) (by omega) (by omega))
  by_cases hf : 0 ≤ leftN n 2000
  · have hfd : decide (0 ≤ leftN n 2000) = true := by simpa using hf
    rw [hfd] at HF
    have hsm := small_left n 2000 (by omega) hf
    have HCK := Lib.hid (fun W (hW : Ext w W) => check_any n sv W A 2000 (hn.ext hW) (hE.three.ext hW) (by omega) hf)
    by_cases hc : chkN n = 0
    · obtain ⟨h1, h2, h3⟩ := chk_ok hc
      have hok : okN n := ⟨h1, hcl⟩
      have hxo := ok_norm n hok
      have hxd := norm_depth n h1
      have hxz := norm_size n hok
      have hxc : chkN (normN n) = 0 := by
        unfold chkN
        rw [hxo.1, if_neg (by decide), if_neg (by omega), if_neg (by omega)]
      have hcx := Nat.le_trans (cnt_norm n hok) (few_cnt (by omega) hf)
      have hcm : (cntN n : Int) ≤ 2000 := by have := left_cnt n 2000 hf; omega
      have hcx2 := cnt_norm n hok
      have hxf : 0 ≤ leftN (normN n) 2000 := left_of_cnt (by omega)
      have hxe := norm_norm n hok
      have hxs := cnt_small _ hcx
      have HO := Lib.hid (fun W (hW : Ext w W) => normal_ok n sv W A 2000 (hn.ext hW) hcl (hE.three.ext hW) (by omega) hf hc)
      have HO2 := Lib.hid (fun W sv' (hW : Ext w W) (h : NdOk W (normN n) sv') => (by
        have := normal_ok (normN n) sv' W A 2000 h hxo.2 (hE.three.ext hW) (by omega) hxf hxc
        rwa [hxe] at this : Calls Tryd.prog 16 #[nodeV (normN n).h sv'] W fun r w' => ∃ s, r = .returned (.tuple #[nodeV (normN n).h s, .nilIface]) ∧ NdNew W.heap.size w' (normN n) s ∧ Ext W w'))
      have H1 := Lib.hid (fun W sv' (hW : Ext w W) (h : NdOk W (normN n) sv') => (by
        have := check_any (normN n) sv' W A 2000 h (hE.three.ext hW) (by omega) hxf
        rwa [hxc] at this : Calls Tryd.prog 23 #[nodeV (normN n).h sv'] W fun r w' => r = .returned .nilIface ∧ Ext W w'))
      have H3 := Lib.hid (fun W sv' (h : NdOk W (normN n) sv') => sizeT_any (normN n) sv' W h hxs hxo.1)
      have H4 := Lib.hid (fun W (hW : Ext w W) => sizeT_any n sv W (hn.ext hW) hsm h1)
      have H5 := Lib.hid (fun W sv' (h : NdOk W (normN n) sv') => depth_any (normN n) sv' W 2000 h (by omega) hxf)
      have H6 := Lib.hid (fun W (hW : Ext w W) => depth_any n sv W 2000 (hn.ext hW) (by omega) hf)
      have H7 := Lib.hid (fun W a b (ha : NdOk W (normN n) a) (hb : NdOk W (normN n) b) => (by
        have := same_any _ a _ b W ha hb hxs
        rwa [sameN_refl] at this : Calls Tryd.prog 24 #[nodeV (normN n).h a, nodeV (normN n).h b] W fun r w' => r = .returned (.bool true) ∧ Ext W w'))
      have H8 := Lib.hid (fun W sv' (h : NdOk W (normN n) sv') => (by
        have := groups_any (normN n) sv' W h hxs
        rwa [norm_grp n h1] at this : Calls Tryd.prog 27 #[nodeV (normN n).h sv'] W fun r w' => r = .returned (.int .i64 (grpN n)) ∧ Ext W w'))
      have H9 := Lib.hid (fun W (hW : Ext w W) => groups_any n sv W (hn.ext hW) hsm)
      have hzz' : decide (sizeN (normN n) ≤ sizeN n) = true := by simpa using hxz
      have hdd : decide (depthN (normN n) ≤ depthN n) = true := by simpa using hxd
      clear hE hn hfd hf hsm hc h1 h2 h3 hxc hxe hxs hxf HCK hxd hcl hok hxo hxz hcx hcm hcx2
      generalize normN n = x at *
      generalize sizeN x = zx at *
      generalize sizeN n = zn at *
      generalize grpN n = gn at *
      generalize depthN x = dx at *
      generalize depthN n = dn at *
      generalize leftN n 2000 = lf at *
      generalize n.h = hd at *
      obtain ⟨xh, hxh⟩ : ∃ xh, x.h = xh := ⟨_, rfl⟩
      rw [hxh] at HO HO2 H1 H3 H5 H7 H8
      clear hxh
      go_enter Tryd.func4, Tryd.ntmps4
      go_upto_region 6 with (first
        | (refine wpl_boxNd rfl _ rfl hd _ rfl ?_; intro b w1 hb hx1 eb sb)
        | (go_at_call 13; refine (HL.out _ hx1).mono ?_; rintro e w2 ⟨rfl, hx2⟩)
        | (refine wpl_loadNd rfl _ rfl b 0 hd _ rfl (hb.ext hx2).nd ?_)
        | (go_at_call 14; refine (HF.out _ (hx1.trans hx2)).mono ?_; rintro e w3 ⟨rfl, hx3⟩)
        | (refine wpl_loadNd rfl _ rfl b 0 hd _ rfl (hb.ext (hx2.trans hx3)).nd ?_)
        | (go_at_call 16; refine (HO.out _ ((hx1.trans hx2).trans hx3)).mono ?_; rintro e w4 ⟨sv4, rfl, hn4, hx4⟩)
        | (refine wpl_allocNd rfl rfl ?_; intro z w5 hz hx5 ez sz)
        | (refine wpl_storeNd rfl _ _ rfl rfl z xh _ sv4 _ rfl rfl hn4.ok.sl hz ?_; intro w6 hz6 hk6; have hx6 := hx5.keep1 hk6 ez))
      have hb6 := hb.ext (((hx2.trans hx3).trans hx4).trans hx6)
      have hw6 := (((hx1.trans hx2).trans hx3).trans hx4).trans hx6
      have hn6 := hn4.ok.ext hx6
      clear HL HF HO hb hx1 hx2 hx3 hx4 hx5 hx6 hk6 ez sz hz eb sb hn4
      try simp only [Act.put, List.setIfInBounds_toArray, List.set_cons_succ, List.set_cons_zero]
      go_upto_region 9 with (first
        | (refine wpl_loadNd rfl _ rfl z 0 xh _ rfl hz6.nd ?_)
        | (go_at_call 16; refine (HO2.out _ sv4 hw6 hn6).mono ?_; rintro e w7 ⟨sv7, rfl, hn7, hx7⟩)
        | (refine wpl_allocNd rfl rfl ?_; intro z2 w8 hz8 hx8 ez sz)
        | (refine wpl_storeNd rfl _ _ rfl rfl z2 xh _ sv7 _ rfl rfl hn7.ok.sl hz8 ?_; intro w9 hz9 hk9; have hx9 := hx8.keep1 hk9 ez))
      have hx69 := hx7.trans hx9
      have hn9 := hn7.ok.ext hx9
      have hn69 := hn6.ext hx69
      have hb9 := hb6.ext hx69
      have hzz := hz6.ext hx69
      have hw9 := hw6.trans hx69
      clear hx7 hx8 hx9 hk9 ez sz hz8 hn7 hn6 hb6 hz6 hw6 hx69 HO2
      try simp only [Act.put, List.setIfInBounds_toArray, List.set_cons_succ, List.set_cons_zero]
      refine wp_region_plus (by kernel_rfl) (by kernel_rfl) ?_
      repeat (first
        | (refine wpQuiet_loadNd _ rfl rfl z 0 xh _ rfl hzz.nd ?_; simp only [Act.put, List.setIfInBounds_toArray, List.set_cons_succ, List.set_cons_zero])
        | (refine wpQuiet_loadNd _ rfl rfl z2 0 xh _ rfl hz9.nd ?_; simp only [Act.put, List.setIfInBounds_toArray, List.set_cons_succ, List.set_cons_zero])
        | (refine wpQuiet_loadNd _ rfl rfl b 0 hd _ rfl hb9.nd ?_; simp only [Act.put, List.setIfInBounds_toArray, List.set_cons_succ, List.set_cons_zero])
        | (go_big_quiet_step (first
          | (go_at_call 23; exact Calls.plus_of (H1.out _ _ (hw9.trans (plus_ext _ _)) (hn69.ext (plus_ext _ _))))
          | (go_at_call 25; with_reducible exact Calls.plus_of (H3.out _ _ (hn69.ext (plus_ext _ _))))
          | (go_at_call 25; with_reducible exact Calls.plus_of (H4.out _ (hw9.trans (plus_ext _ _))))
          | (go_at_call 27; with_reducible exact Calls.plus_of (H8.out _ _ (hn69.ext (plus_ext _ _))))
          | (go_at_call 27; with_reducible exact Calls.plus_of (H9.out _ (hw9.trans (plus_ext _ _))))
          | (go_at_call 26; with_reducible exact Calls.plus_of (H5.out _ _ (hn69.ext (plus_ext _ _))))
          | (go_at_call 26; with_reducible exact Calls.plus_of (H6.out _ (hw9.trans (plus_ext _ _))))
          | (go_at_call 24; exact Calls.plus_of (H7.out _ _ _ (hn69.ext (plus_ext _ _)) (hn9.ext (plus_ext _ _)))))))
      refine wpQuiet_nil ?_
      intro y
      have hy := hw9.trans (plus_ext _ y)
      go_wp2
      go_ret
      exact ⟨rfl, hy⟩
    · have HB := Lib.hid (fun W (hW : Ext w W) => normal_bad n sv W A 2000 (hn.ext hW) hcl (hE.three.ext hW) (by omega) hf hc)
      have HCK2 := Lib.hid (fun W (hW : Ext w W) => (by
        have := HCK.out W hW
        rwa [errR, if_neg hc] at this : Calls Tryd.prog 23 #[nodeV n.h sv] W fun r w' => r = .returned (errV (A (chkN n - 1))) ∧ Ext W w'))
      have HNum := Lib.hid (fun W (hW : Ext w W) => (by
        have := num_errR A (chkN n) W (chk_le n) (hE.ext hW)
        rwa [errR, if_neg hc] at this : Calls Tryd.prog 18 #[errV (A (chkN n - 1))] W fun r w' => r = .returned (.int .i64 (chkN n)) ∧ Ext W w'))
      clear hE hn hfd hf hsm HCK hcl
      generalize chkN n = ck at *
      generalize n.h = hd at *
      generalize A (ck - 1) = ad at *
      unfold errV at *
      go_enter Tryd.func4, Tryd.ntmps4
      go_upto_region 7 with (first
        | (refine wpl_boxNd rfl _ rfl hd _ rfl ?_; intro b w1 hb hx1 eb sb)
        | (go_at_call 13; refine (HL.out _ hx1).mono ?_; rintro e w2 ⟨rfl, hx2⟩)
        | (refine wpl_loadNd rfl _ rfl b 0 hd _ rfl (hb.ext hx2).nd ?_)
        | (go_at_call 14; refine (HF.out _ (hx1.trans hx2)).mono ?_; rintro e w3 ⟨rfl, hx3⟩)
        | (refine wpl_loadNd rfl _ rfl b 0 hd _ rfl (hb.ext (hx2.trans hx3)).nd ?_)
        | (go_at_call 16; refine (HB.out _ ((hx1.trans hx2).trans hx3)).mono ?_; rintro e w4 ⟨sv4, rfl, hn4, hx4⟩)
        | (refine wpl_allocNd rfl rfl ?_; intro z w5 hz hx5 ez sz)
        | (refine wpl_storeNd rfl _ _ rfl rfl z (hdV 0) _ sv4 _ rfl rfl hn4.ok.sl hz ?_; intro w6 hz6 hk6; have hx6 := hx5.keep1 hk6 ez))
      have hb6 := hb.ext (((hx2.trans hx3).trans hx4).trans hx6)
      have hw6 := (((hx1.trans hx2).trans hx3).trans hx4).trans hx6
      clear HL HF HB hb hx1 hx2 hx3 hx4 hx5 hx6 hk6 ez sz hz eb sb hn4 hz6 hc
      try simp only [Act.put, List.setIfInBounds_toArray, List.set_cons_succ, List.set_cons_zero]
      refine wp_region_plus (by kernel_rfl) (by kernel_rfl) ?_
      repeat (first
        | (refine wpQuiet_loadNd _ rfl rfl b 0 hd _ rfl hb6.nd ?_; simp only [Act.put, List.setIfInBounds_toArray, List.set_cons_succ, List.set_cons_zero])
        | (go_big_quiet_step (first
          | (go_at_call 23; exact Calls.plus_of (HCK2.out _ (hw6.trans (plus_ext _ _))))
          | (go_at_call 18; exact Calls.plus_of (HNum.out _ (hw6.trans (plus_ext _ _)))))))
      refine wpQuiet_nil ?_
      intro y
      have hy := hw6.trans (plus_ext _ y)
      go_wp2
      go_ret
      exact ⟨rfl, hy⟩
  · have hd0 : decide (0 ≤ leftN n 2000) = false := by simpa using hf
    rw [hd0] at HF
    clear hE hn hd0 hf hcl
    generalize n.h = hd at *
    go_enter Tryd.func4, Tryd.ntmps4
    go_upto_region 1 with (refine wpl_boxNd rfl _ rfl hd _ rfl ?_; intro b w1 hb hx1 eb sb)
    go_wp2_with (first
      | (go_at_call 13; refine (HL.out _ hx1).mono ?_; rintro e w2 ⟨rfl, hx2⟩)
      | (refine wpl_loadNd rfl _ rfl b 0 hd _ rfl (hb.ext hx2).nd ?_)
      | (go_at_call 14; refine (HF.out _ (hx1.trans hx2)).mono ?_; rintro e w3 ⟨rfl, hx3⟩))
    go_ret
    exact ⟨rfl, (hx1.trans hx2).trans hx3⟩

end Go.Proofs.YtkcgbdoplhgbmaaDoor
