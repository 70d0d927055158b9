/- trawlref11.rounds and Over as contracts: what a right tree leads to. Conditions: the tree and the row lie in memory. trawlref11.Over as a contract: what a right tree leads to. Conditions: the tree and the row lie in memory. A new span, the store into it; a beginning of a slice of spans. No condition. trawlref11.Takes, Ends, First as contracts. Conditions: the tree lies in memory, the places are the subject's. -/
import Derived.Test.YtgfknlkpdiejgaaGreatDoorZRankedSpansAW
import Derived.Test.YtgfknlkpdiejgaaGreatDoorZRankedSpansAN
import Derived.Test.YtgfknlkpdiejgaaGreatDoorZRankedSpansAP
import Derived.Test.YtgfknlkpdiejgaaGreatDoorZRankedSpansAG
import Derived.Test.YtgfknlkpdiejgaaGreatDoorZRankedSpansAV
import Derived.Test.YtgfknlkpdiejgaaGreatDoorZRankedSpansAC
import Derived.Test.YtgfknlkpdiejgaaGreatDoorZRankedSpansAR
import Derived.Deep.RegionHeld3
import Derived.OwnWalk
namespace Go.Proofs.YtgfknlkpdiejgaaGreatDoor
open Go Go.RowKit

theorem RdBl.shape {W : World} {v : Value} {n : Nat} {p : Pl} (h : RdBl W v n p) : ∃ A c, v = .slice A n c ∧ True := by
  obtain ⟨A, c, hv, _⟩ := h
  exact ⟨A, c, hv, trivial⟩
theorem someBl_no {n : Nat} {p : Pl} (hp : PlN n p) : someBl (n + 1) p = false ↔ p = noP := by
  constructor
  · intro h
    funext j
    cases hj : p j with
    | false => rfl
    | true =>
      have : someBl (n + 1) p = true := someBl_iff.2 ⟨j, by have := hp j hj; omega, hj⟩
      rw [h] at this
      cases this
  · rintro rfl
    cases h : someBl (n + 1) noP with
    | false => rfl
    | true => obtain ⟨j, _, h2⟩ := someBl_iff.1 h; cases h2
section
variable {s : ByteArray} {c e : Int} {tn : Bool}
/-- What Over answers. -/
def OverR (s : ByteArray) (w : World) (q : Pl) (r : Ending) (w' : World) : Prop := ∃ v, r = .returned v ∧ RdBl w' v (s.size + 1) q ∧ Ext w w'
def OverOf (s : ByteArray) (c e : Int) (tn : Bool) (t : Nd) : Prop := ∀ (svn v : Value) (p : Pl) (W : World), formB t = true → NdOk W t svn → RdBl W v (s.size + 1) p → PlN s.size p →
  Calls Tryz.prog 60 #[nodeV t.h svn, srV s c e tn, v] W (OverR s W (img (tkN (lfR s c e tn) t) p))
set_option maxRecDepth 100000 in
set_option maxHeartbeats 16000000 in
theorem rrounds_one (h : Hd) (nk : Nd) (hk8 : h.kind = 8) (HO : OverOf s c e tn nk) (hs : s.size ≤ 1000000) (svn v : Value) (p : Pl) (w : World) (hf : formB (.mk h [nk]) = true) (hn : NdOk w (.mk h [nk]) svn) (hr : RdBl w v (s.size + 1) p) (hp : PlN s.size p) :
    Calls Tryz.prog 78 #[nodeV h svn, srV s c e tn, v] w (OverR s w (img (rpR (tkN (lfR s c e tn) nk) h.min h.max) p)) := by
  have hcase := form_cases hf
  have hf0 := form_sub hf nk (by simp)
  have hmxx := form_rep hf hk8
  have HI := Lib.hid (tkN_mon (lfR_ok s c e tn) nk).inn
  have HP := Lib.hid hp
  obtain ⟨SA, sc, rfl, hNs⟩ := hn
  obtain ⟨g0, o0, sv0, rfl, hat, hok⟩ := hNs.get 0 (by simp)
  simp only [List.getElem_cons_zero, Nat.zero_mul, Nat.add_zero, List.length_singleton] at hat hok ⊢
  have hatw : NdAt w g0 o0 nk.h sv0 := fun i hi => hat i hi
  have HATW := Lib.hid hatw
  have HOV := Lib.hid (fun W v q (hW : Ext w W) (h1 : RdBl W v (s.size + 1) q) (h2 : PlN s.size q) => HO sv0 v q W hf0 (NdOk.ext hW _ _ hok) h1 h2)
  have HRD := Lib.hid hr
  obtain ⟨A, ca, rfl, _⟩ := hr.shape
  obtain ⟨mn, hmn⟩ := Int.eq_ofNat_of_zero_le (show 0 ≤ h.min by omega)
  have hmnb : mn ≤ 1000 := by omega
  have hmx : h.max = -1 ∨ (mn : Int) ≤ h.max := by omega
  have hmxb : h.max ≤ 1000 := by omega
  obtain ⟨mx, hmxe⟩ : ∃ mx, mx = h.max := ⟨_, rfl⟩
  have HR : Hid (img (rpR (tkN (lfR s c e tn) nk) h.min h.max) p = img (rpR (tkN (lfR s c e tn) nk) mn mx) p) := Lib.hid (by rw [hmn, hmxe])
  rw [HR.out]
  have HMN := Lib.hid hmn
  have HMX := Lib.hid hmxe
  rw [← hmxe] at hmx hmxb
  have hss := hs
  generalize tkN (lfR s c e tn) nk = R at *
  have hn0 : 0 < s.size + 1 := by omega
  have hn8 : s.size + 1 ≤ 100000000 := by omega
  have HNB := Lib.hid (fun j (h : newP R (img (pw R mn) p) j ≠ noP) => new_bound HI.out (HP.out.img (HI.out.pw mn)) h)
  obtain ⟨n, hnn⟩ : ∃ n, n = s.size + 1 := ⟨_, rfl⟩
  have HN := Lib.hid hnn
  unfold OverR at HOV ⊢
  rw [← hnn] at HOV HRD hn0 hn8 ⊢
  clear hcase hf0 hmxx hNs hat hok hatw hr hp hf hmn hmxe HO hk8 HR hnn
  unfold srV at HOV ⊢
  go_enter Tryz.func78, Tryz.ntmps78
  go_upto_region 1 with (refine wpl_boxNd rfl _ rfl h _ rfl ?_; intro z w1 hb hx1 ez sz)
  have hV := Blk.new w1 35 #[.string s, .int .i64 c, .int .i64 e, .bool tn]
  have hx2 := hx1.alloc (.cells #[.string s, .int .i64 c, .int .i64 e, .bool tn] 35)
  replace hb := hb.ext ((Ext.refl w1).alloc (.cells #[.string s, .int .i64 c, .int .i64 e, .bool tn] 35))
  generalize w1.alloc (.cells #[.string s, .int .i64 c, .int .i64 e, .bool tn] 35) = w2 at *
  generalize w1.heap.size = gu at *
  have HX2 := Lib.hid hx2
  have k5 : w2.cell? ⟨z, 5, none⟩ = some (.slice (some ⟨g0, o0, none⟩) 1 sc) := hb.cell 5
  have k7 : w2.cell? ⟨z, 7, none⟩ = some (.int .i64 h.min) := hb.cell 7
  have k8 : w2.cell? ⟨z, 8, none⟩ = some (.int .i64 h.max) := hb.cell 8
  rw [HMN.out] at k7
  rw [← HMX.out] at k8
  have HV0 := Lib.hid (hV.cell 0)
  have HV1 := Lib.hid (hV.cell 1)
  have HV2 := Lib.hid (hV.cell 2)
  have HV3 := Lib.hid (hV.cell 3)
  have HK5 := Lib.hid k5
  have HK7 := Lib.hid k7
  have HK8 := Lib.hid k8
  clear hb hV hx1 ez sz hx2 HMN HMX
  by_cases hm0 : mx = 0
  · have HFIN : Hid (img (rpR R mn mx) p = p) := Lib.hid (by
      have e : mn = 0 := by omega
      subst e
      rw [rep_up HI.out HP.out 0 mx 0 (.inl ⟨by omega, by omega⟩), up_zero, show pw R 0 = Rl.id from rfl, img_id])
    subst hm0
    go_wp2
    go_ret
    exact ⟨_, rfl, by rw [HFIN.out]; exact HRD.out.ext HX2.out, HX2.out⟩
  have q0 : (mx == 0) = false := by simpa using hm0
  have hx22 := Ext.refl w2
  go_upto_region 5 with fail
  clear k5 k7 k8 q0
  go_loopw [7, 8] (fun fv iv wr => ∃ k : Nat, k ≤ mn ∧ iv = .int .i64 k ∧ RdBl wr fv n (img (pw R k) p) ∧ Ext w2 wr) (fun _ iv _ => mn - (intOf iv).toNat)
  case atStart => exact ⟨0, Nat.zero_le _, rfl, by rw [show pw R 0 = Rl.id from rfl, img_id]; exact HRD.out.ext HX2.out, hx22⟩
  case round =>
    clear hx22
    obtain ⟨k, hk, rfl, hr, hx⟩ := hrel
    obtain ⟨w4, hw4⟩ : ∃ w, w = wr := ⟨_, rfl⟩
    subst hw4
    have HX4 := Lib.hid (HX2.out.trans hx)
    have HX24 := Lib.hid hx
    have HR4 := Lib.hid hr
    obtain ⟨A1, c1, rfl, _⟩ := hr.shape
    have k7 := hx.cell HK7.out
    clear hr hx
    by_cases hlt : k < mn
    · have q9 : (k : Int) < (mn : Int) := by omega
      have HST : Hid (img R (img (pw R k) p) = img (pw R (k + 1)) p) := Lib.hid (img_pw HI.out HP.out k).symm
      generalize hqp : img (pw R k) p = qp at *
      have HPQ : Hid (PlN s.size qp) := Lib.hid (by rw [← hqp]; exact HP.out.img (HI.out.pw k))
      have HLD := Lib.hid (fun W' (hW : Ext w4 W') => HOV.out W' (.slice A1 n c1) qp (HX4.out.trans hW) (HR4.out.ext hW) HPQ.out)
      have HAT := Lib.hid (HATW.out.ext HX4.out)
      have z5 := HX24.out.cell HK5.out
      have y0 := HX24.out.cell HV0.out
      have y1 := HX24.out.cell HV1.out
      have y2 := HX24.out.cell HV2.out
      have y3 := HX24.out.cell HV3.out
      clear hqp
      go_upto_region 7 with fail
      clear k7
      refine wp_region_predz 23 7 [fun v _ => v = .pointer (some ⟨z, 5, none⟩), fun v _ => v = .slice (some ⟨g0, o0, none⟩) 1 sc, fun v _ => v = .pointer (some ⟨g0, o0, none⟩), fun v _ => v = nodeV nk.h sv0, fun v _ => v = .agg #[.string s, .int .i64 c, .int .i64 e, .bool tn], fun v _ => v = .slice A1 n c1, fun v W' => RdBl W' v n (img R qp)] (Lasts.nil.cons fun (v : Value) V V' hx (h : RdBl V v n (img R qp)) => (h.ext hx : RdBl V' v n (img R qp))).is.is.is.is.is.is (by kernel_rfl) (by kernel_rfl) (by kernel_rfl) (by kernel_rfl) (by kernel_rfl) (by kernel_rfl) (by kernel_rfl) ?_
      intro T hT
      have r6 : List.range 7 = [0, 1, 2, 3, 4, 5, 6] := rfl
      simp only [spliceT, r6, List.map_cons, List.map_nil, List.take_succ_cons, List.take_zero, List.drop_succ_cons, List.drop_zero, List.cons_append, List.nil_append, Nat.reduceAdd] at hT
      simp only [List.take_succ_cons, List.take_zero, List.drop_succ_cons, List.drop_zero, AllS, Nat.reduceAdd]
      refine ⟨⟨?_, ?_, ?_, ?_, ?_, ?_, ?_, trivial⟩, ?_⟩
      · intro u W' hx hd'
        clear hd'
        rw [hT u]
        go_wp2
        exact stepQ_mk ⟨Ext.refl _, _, by first | (rw [hT]; simp [updN]) | simp [updN], rfl⟩
      · intro u W' hx hd'
        have t0 := hd' 0 (mem_of (by kernel_rfl))
        clear hd'
        replace t0 : u 0 = _ := t0
        rw [hT u, t0]
        have qf := hx.cell z5
        go_wp2
        exact stepQ_mk ⟨Ext.refl _, _, by first | (rw [hT]; simp [updN, t0]) | simp [updN, t0], rfl⟩
      · intro u W' hx hd'
        have t1 := hd' 1 (mem_of (by kernel_rfl))
        clear hd'
        replace t1 : u 1 = _ := t1
        rw [hT u, t1]
        go_wp2
        exact stepQ_mk ⟨Ext.refl _, _, by first | (rw [hT]; simp [updN, t1]) | simp [updN, t1], rfl⟩
      · intro u W' hx hd'
        have t2 := hd' 2 (mem_of (by kernel_rfl))
        clear hd'
        replace t2 : u 2 = _ := t2
        rw [hT u, t2]
        go_wp2_with (refine wpl_loadNd rfl _ rfl g0 (o0) nk.h sv0 rfl (HAT.out.ext hx) ?_)
        exact stepQ_mk ⟨Ext.refl _, _, by first | (rw [hT]; simp [updN, t2]) | simp [updN, t2], rfl⟩
      · intro u W' hx hd'
        clear hd'
        rw [hT u]
        have q0 := hx.cell y0
        have q1 := hx.cell y1
        have q2 := hx.cell y2
        have q3 := hx.cell y3
        go_wp2
        exact stepQ_mk ⟨Ext.refl _, _, by first | (rw [hT]; simp [updN]) | simp [updN], rfl⟩
      · intro u W' hx hd'
        clear hd'
        rw [hT u]
        go_wp2
        exact stepQ_mk ⟨Ext.refl _, _, by first | (rw [hT]; simp [updN]) | simp [updN], rfl⟩
      · intro u W' hx hd'
        have t3 := hd' 3 (mem_of (by kernel_rfl))
        have t4 := hd' 4 (mem_of (by kernel_rfl))
        have t5 := hd' 5 (mem_of (by kernel_rfl))
        clear hd'
        replace t3 : u 3 = _ := t3
        replace t4 : u 4 = _ := t4
        replace t5 : u 5 = _ := t5
        rw [hT u, t3, t4, t5]
        have HCY := Lib.hid (HLD.out W' (hx))
        go_wp2_with (go_at_call 60; refine HCY.out.mono ?_; rintro e w6 ⟨v6, rfl, hr6, hx6⟩)
        exact stepQ_mk ⟨hx6, _, by first | (rw [hT]; simp [updN, t3, t4, t5]) | simp [updN, t3, t4, t5], hr6⟩
      · intro u W' hx hp
        have tE : RdBl W' (u 6) n (img R qp) := hp 6 (by omega)
        clear hp
        rw [hT u]
        clear hT
        have HTE := Lib.hid tE
        obtain ⟨A9, c9, hv9, _⟩ := tE
        have HXX := Lib.hid hx
        clear hx
        generalize u 6 = v10 at *
        subst hv9
        go_wp2
        go_roundw
        case rel => exact ⟨k + 1, hlt, by go_num, by rw [← HST.out]; exact HTE.out, HX24.out.trans HXX.out⟩
        case measure => simp [intOf]; omega
    · have q9 : ¬ (k : Int) < (mn : Int) := by omega
      obtain rfl : k = mn := by omega
      have HPQ : Hid (PlN s.size (img (pw R k) p)) := Lib.hid (HP.out.img (HI.out.pw k))
      have HFIN : Hid (∀ j : Nat, ((0 ≤ mx ∧ (k : Int) + j = mx) ∨ newP R (img (pw R k) p) j = noP ∧ (mx < 0 ∨ (k : Int) + j ≤ mx)) → upP R (img (pw R k) p) j = img (rpR R k mx) p) := Lib.hid (fun j h => (rep_up HI.out HP.out k mx j h).symm)
      generalize img (pw R k) p = q at *
      have hx44 := Ext.refl w4
      go_upto_region 10 with fail
      clear k7
      go_loopw [7, 9, 10] (fun nv av iv wr => ∃ j : Nat, iv = .int .i64 ((k : Int) + j) ∧ (mx < 0 ∨ (k : Int) + j ≤ mx) ∧ j ≤ s.size + 2 ∧ RdBl wr nv n (newP R q j) ∧ RdBl wr av n (upP R q j) ∧ Ext w4 wr) (fun _ _ iv _ => s.size + 3 + k - (intOf iv).toNat)
      case atStart => exact ⟨0, by simp, by omega, by omega, HR4.out, by rw [up_zero]; exact HR4.out, hx44⟩
      case round =>
        clear hx44
        obtain ⟨j, rfl, hjm, hjs, hnw, hup, hx⟩ := hrel
        obtain ⟨w6, hw6⟩ : ∃ w, w = wr := ⟨_, rfl⟩
        subst hw6
        have HX26 := Lib.hid (HX24.out.trans hx)
        have HX6 := Lib.hid (HX4.out.trans hx)
        have HX46 := Lib.hid hx
        have HNW := Lib.hid hnw
        have HUP := Lib.hid hup
        obtain ⟨A1, c1, rfl, _⟩ := hnw.shape
        obtain ⟨A2, c2, rfl, _⟩ := hup.shape
        have k8 := HX26.out.cell HK8.out
        have HF := Lib.hid (HFIN.out j)
        have HF1 := Lib.hid (HFIN.out (j + 1))
        clear hx hnw hup HFIN
        by_cases hend : 0 ≤ mx ∧ (k : Int) + j = mx
        · have HRR := Lib.hid (HF.out (.inl hend))
          have d1 : decide (mx < 0) = false := decide_eq_false (by omega)
          have d2 : decide ((k : Int) + j < mx) = false := decide_eq_false (by omega)
          clear hend HF HF1
          go_wp2
          go_ret
          exact ⟨_, rfl, by rw [← HRR.out]; exact HUP.out, HX6.out⟩
        have hjm2 : mx < 0 ∨ (k : Int) + j < mx := by omega
        have HPN : Hid (PlN s.size (newP R q j)) := Lib.hid (PlN.new HI.out HPQ.out j)
        have HST : Hid (lessP (img R (newP R q j)) (upP R q j) = newP R q (j + 1)) := Lib.hid (round_new HI.out HPQ.out j)
        have HSU : Hid (orP (upP R q j) (newP R q (j + 1)) = upP R q (j + 1)) := Lib.hid (round_up R q j)
        have HPN1 : Hid (PlN s.size (newP R q (j + 1))) := Lib.hid (PlN.new HI.out HPQ.out (j + 1))
        have HNB1 := Lib.hid (HNB.out (j + 1))
        clear HNB
        generalize newP R q j = qp at *
        generalize upP R q j = qa at *
        obtain ⟨qn, hqn⟩ : ∃ x, x = newP R q (j + 1) := ⟨_, rfl⟩
        obtain ⟨qu, hqu⟩ : ∃ x, x = upP R q (j + 1) := ⟨_, rfl⟩
        rw [← hqn] at HST HSU HPN1 HNB1 HF1
        rw [← hqu] at HSU HF1
        have HQN := Lib.hid hqn
        have HQU := Lib.hid hqu
        clear hqn hqu
        have HLD := Lib.hid (fun W' (hW : Ext w6 W') => HOV.out W' (.slice A1 n c1) qp (HX6.out.trans hW) (HNW.out.ext hW) HPN.out)
        have HAT := Lib.hid (HATW.out.ext HX6.out)
        have HAL := Lib.hid HUP.out
        have z5 := HX26.out.cell HK5.out
        have y0 := HX26.out.cell HV0.out
        have y1 := HX26.out.cell HV1.out
        have y2 := HX26.out.cell HV2.out
        have y3 := HX26.out.cell HV3.out
        have hdd : decide (mx < 0) = true ∨ (decide (mx < 0) = false ∧ decide ((k : Int) + j < mx) = true) := by
          by_cases hneg : mx < 0
          · exact .inl (decide_eq_true hneg)
          · exact .inr ⟨decide_eq_false hneg, decide_eq_true (by omega)⟩
        rcases hdd with d1 | ⟨d1, d2⟩
        all_goals
          go_upto_region 12 with fail
          go_cut [7] (fun v wx => RdBl wx v n (lessP (img R qp) qa) ∧ Ext w6 wx)
          case first =>
            clear k8
            refine wp_region_predz 44 9 [fun v _ => v = .pointer (some ⟨z, 5, none⟩), fun v _ => v = .slice (some ⟨g0, o0, none⟩) 1 sc, fun v _ => v = .pointer (some ⟨g0, o0, none⟩), fun v _ => v = nodeV nk.h sv0, fun v _ => v = .agg #[.string s, .int .i64 c, .int .i64 e, .bool tn], fun v _ => v = .slice A1 n c1, fun v W' => RdBl W' v n (img R qp), fun v _ => v = (.slice A2 n c2), fun v W' => RdBl W' v n ((lessP (img R qp) qa))] ((Lasts.nil.cons fun (v : Value) V V' hx (h : RdBl V v n ((lessP (img R qp) qa))) => (h.ext hx : RdBl V' v n ((lessP (img R qp) qa)))).is.cons fun (v : Value) V V' hx (h : RdBl V v n (img R qp)) => (h.ext hx : RdBl V' v n (img R qp))).is.is.is.is.is.is (by kernel_rfl) (by kernel_rfl) (by kernel_rfl) (by kernel_rfl) (by kernel_rfl) (by kernel_rfl) (by kernel_rfl) ?_
            intro T hT
            have r6 : List.range 9 = [0, 1, 2, 3, 4, 5, 6, 7, 8] := rfl
            simp only [spliceT, r6, List.map_cons, List.map_nil, List.take_succ_cons, List.take_zero, List.drop_succ_cons, List.drop_zero, List.cons_append, List.nil_append, Nat.reduceAdd] at hT
            simp only [List.take_succ_cons, List.take_zero, List.drop_succ_cons, List.drop_zero, AllS, Nat.reduceAdd]
            refine ⟨⟨?_, ?_, ?_, ?_, ?_, ?_, ?_, ?_, ?_, trivial⟩, ?_⟩
            · intro u W' hx hd'
              clear hd'
              rw [hT u]
              go_wp2
              exact stepQ_mk ⟨Ext.refl _, _, by first | (rw [hT]; simp [updN]) | simp [updN], rfl⟩
            · intro u W' hx hd'
              have t0 := hd' 0 (mem_of (by kernel_rfl))
              clear hd'
              replace t0 : u 0 = _ := t0
              rw [hT u, t0]
              have qf := hx.cell z5
              go_wp2
              exact stepQ_mk ⟨Ext.refl _, _, by first | (rw [hT]; simp [updN, t0]) | simp [updN, t0], rfl⟩
            · intro u W' hx hd'
              have t1 := hd' 1 (mem_of (by kernel_rfl))
              clear hd'
              replace t1 : u 1 = _ := t1
              rw [hT u, t1]
              go_wp2
              exact stepQ_mk ⟨Ext.refl _, _, by first | (rw [hT]; simp [updN, t1]) | simp [updN, t1], rfl⟩
            · intro u W' hx hd'
              have t2 := hd' 2 (mem_of (by kernel_rfl))
              clear hd'
              replace t2 : u 2 = _ := t2
              rw [hT u, t2]
              go_wp2_with (refine wpl_loadNd rfl _ rfl g0 (o0) nk.h sv0 rfl (HAT.out.ext hx) ?_)
              exact stepQ_mk ⟨Ext.refl _, _, by first | (rw [hT]; simp [updN, t2]) | simp [updN, t2], rfl⟩
            · intro u W' hx hd'
              clear hd'
              rw [hT u]
              have q0 := hx.cell y0
              have q1 := hx.cell y1
              have q2 := hx.cell y2
              have q3 := hx.cell y3
              go_wp2
              exact stepQ_mk ⟨Ext.refl _, _, by first | (rw [hT]; simp [updN]) | simp [updN], rfl⟩
            · intro u W' hx hd'
              clear hd'
              rw [hT u]
              go_wp2
              exact stepQ_mk ⟨Ext.refl _, _, by first | (rw [hT]; simp [updN]) | simp [updN], rfl⟩
            · intro u W' hx hd'
              have t3 := hd' 3 (mem_of (by kernel_rfl))
              have t4 := hd' 4 (mem_of (by kernel_rfl))
              have t5 := hd' 5 (mem_of (by kernel_rfl))
              clear hd'
              replace t3 : u 3 = _ := t3
              replace t4 : u 4 = _ := t4
              replace t5 : u 5 = _ := t5
              rw [hT u, t3, t4, t5]
              have HCY := Lib.hid (HLD.out W' (hx))
              go_wp2_with (go_at_call 60; refine HCY.out.mono ?_; rintro e w6 ⟨v6, rfl, hr6, hx6⟩)
              exact stepQ_mk ⟨hx6, _, by first | (rw [hT]; simp [updN, t3, t4, t5]) | simp [updN, t3, t4, t5], hr6⟩
            · intro u W' hx hd'
              clear hd'
              rw [hT u]
              go_wp2
              exact stepQ_mk ⟨Ext.refl _, _, by first | (rw [hT]; simp [updN]) | simp [updN], rfl⟩
            · intro u W' hx hd'
              have t6 := hd' 6 (mem_of (by kernel_rfl))
              have t7 := hd' 7 (mem_of (by kernel_rfl))
              clear hd'
              replace t7 : u 7 = _ := t7
              replace t6 : RdBl W' (u 6) n (img R qp) := t6
              rw [hT u, t7]
              have HCY := Lib.hid (rwithout_any (u 6) (.slice A2 n c2) n _ _ W' t6 (HAL.out.ext hx) hn8 hn0)
              obtain ⟨A9, c9, hv9, _⟩ := t6
              generalize hu9 : u 6 = v9 at *
              have HU9 := Lib.hid hu9
              subst hv9
              go_wp2_with (go_at_call 86; refine HCY.out.mono ?_; rintro e w6 ⟨v6, rfl, ho6, hx6⟩)
              exact stepQ_mk ⟨hx6, _, by first | (rw [hT]; simp [updN, t7, HU9.out]) | simp [updN, t7, HU9.out], RdBl.of_own ho6⟩
            · intro u W' hx hp
              have tE : RdBl W' (u 8) n ((lessP (img R qp) qa)) := hp 8 (by omega)
              clear hp
              rw [hT u]
              clear hT
              have HTE := Lib.hid tE
              obtain ⟨A9, c9, hv9, _⟩ := tE
              have HXX := Lib.hid hx
              clear hx
              generalize u 8 = v10 at *
              subst hv9
              go_wp2
              go_meet
              case rel => exact ⟨HTE.out, HXX.out⟩
          obtain ⟨hr7, hx7⟩ := hcut
          obtain ⟨w7, hw7⟩ : ∃ w, w = wc := ⟨_, rfl⟩
          subst hw7
          rw [HST.out] at hr7
          have HR7 := Lib.hid hr7
          have HX7 := Lib.hid hx7
          have HS7 := Lib.hid (rsome_any _ n qn w7 hr7 hn8)
          obtain ⟨A3, c3, rfl, _⟩ := hr7.shape
          clear hr7 hx7 z5 y0 y1 y2 y3 k8
          by_cases hz : someBl n qn = true
          · rw [hz] at HS7
            have hne : qn ≠ noP := fun e => by
              rw [HN.out] at hz
              have := (someBl_no HPN1.out).2 e
              rw [hz] at this
              cases this
            have hjb := HNB1.out hne
            have HAL7 := Lib.hid (HAL.out.ext HX7.out)
            have HBO := Lib.hid (rboth_any _ _ n qa qn w7 HAL7.out HR7.out hn8 hn0)
            rw [HSU.out] at HBO
            clear hz hne
            go_wp2_with (first
              | (go_at_call 76; refine HS7.out.mono ?_; rintro e w8 ⟨rfl, rfl⟩)
              | (go_at_call 77; refine HBO.out.mono ?_; rintro e w9 ⟨v9, rfl, ho9, hx9⟩; obtain ⟨A9, c9, hv9, _⟩ := (RdBl.of_own ho9).shape; subst hv9))
            go_roundw
            case rel => exact ⟨j + 1, by go_num, by omega, by omega, (by rw [← HQN.out]; exact HR7.out.ext hx9), (by rw [← HQU.out]; exact RdBl.of_own ho9), (HX46.out.trans HX7.out).trans hx9⟩
            case measure => simp [intOf]; omega
          · have hz' : someBl n qn = false := by simpa using hz
            rw [hz'] at HS7
            have hno : qn = noP := (someBl_no HPN1.out).1 (by rw [← HN.out]; exact hz')
            have HRR : Hid (qa = img (rpR R k mx) p) := Lib.hid (by
              have h1 := HF1.out (.inr ⟨hno, by omega⟩)
              rw [← h1, ← HSU.out, hno]
              funext i
              unfold orP noP
              rw [Bool.or_false])
            clear hz hz' hno
            go_wp2_with (go_at_call 76; refine HS7.out.mono ?_; rintro e w8 ⟨rfl, rfl⟩)
            go_ret
            exact ⟨_, rfl, by rw [← HRR.out]; exact HAL.out.ext HX7.out, HX6.out.trans HX7.out⟩
end

end Go.Proofs.YtgfknlkpdiejgaaGreatDoor

namespace Go.Proofs.YtgfknlkpdiejgaaGreatDoor
open Go Go.RowKit

theorem someBl_no_n {n : Nat} {p : Pl} (hp : PlN n p) : someBl (n + 1) p = false ↔ p = noP := someBl_no hp
theorem img_noP (R : Rl) : img R noP = noP := pl_ext fun j => by
  rw [img_iff]
  constructor
  · rintro ⟨i, h, _⟩; cases h
  · intro h; cases h
/-- The first k of them. -/
def cutP (p : Pl) (k : Nat) : Pl := fun i => p i && decide (i < k)
theorem cutP_zero (p : Pl) : cutP p 0 = noP := by funext i; unfold cutP noP; simp
theorem cutP_all {n : Nat} {p : Pl} (hp : PlN n p) : cutP p (n + 1) = p := by
  funext i
  unfold cutP
  cases h : p i with
  | false => rfl
  | true => have := hp i h; simp; omega
theorem cutP_skip {p : Pl} {k : Nat} (h : p k = false) : cutP p (k + 1) = cutP p k := by
  funext i
  unfold cutP
  by_cases e : i = k
  · subst e; rw [h]; rfl
  · have e2 : decide (i < k + 1) = decide (i < k) := by rw [Bool.eq_iff_iff, decide_eq_true_eq, decide_eq_true_eq]; omega
    rw [e2]
theorem cutP_iff {p : Pl} {k i : Nat} : cutP p k i = true ↔ p i = true ∧ i < k := by unfold cutP; rw [Bool.and_eq_true, decide_eq_true_eq]
section
variable {s : ByteArray} {c e : Int} {tn : Bool}
theorem leaf_none {h : Hd} {subs : List Nd} {p : Pl} {k : Nat} (hk : 1 ≤ h.kind ∧ h.kind ≤ 4) (hks : k ≤ s.size) (hp : p k = true) (hl : lfK s c e tn h k < 0) : img (tkN (lfR s c e tn) (.mk h subs)) (cutP p (k + 1)) = img (tkN (lfR s c e tn) (.mk h subs)) (cutP p k) := pl_ext fun j => by
  rw [img_iff, img_iff]
  constructor
  · rintro ⟨i, h1, h2⟩
    obtain ⟨h3, h4⟩ := cutP_iff.1 h1
    by_cases e : i = k
    · subst e
      rw [leaf_img h subs (by omega), lfK_iff hks hk] at h2
      omega
    · exact ⟨i, cutP_iff.2 ⟨h3, by omega⟩, h2⟩
  · rintro ⟨i, h1, h2⟩
    obtain ⟨h3, h4⟩ := cutP_iff.1 h1
    exact ⟨i, cutP_iff.2 ⟨h3, by omega⟩, h2⟩
theorem leaf_some {h : Hd} {subs : List Nd} {p : Pl} {k m : Nat} (hk : 1 ≤ h.kind ∧ h.kind ≤ 4) (hks : k ≤ s.size) (hp : p k = true) (hl : lfK s c e tn h k = (m : Int)) : img (tkN (lfR s c e tn) (.mk h subs)) (cutP p (k + 1)) = insB1 (img (tkN (lfR s c e tn) (.mk h subs)) (cutP p k)) m := pl_ext fun j => by
  unfold insB1
  rw [img_iff]
  constructor
  · rintro ⟨i, h1, h2⟩
    obtain ⟨h3, h4⟩ := cutP_iff.1 h1
    by_cases e : i = k
    · subst e
      rw [leaf_img h subs (by omega), lfK_iff hks hk, hl] at h2
      rw [if_pos (by omega)]
    · split
      · rfl
      · exact img_iff.2 ⟨i, cutP_iff.2 ⟨h3, by omega⟩, h2⟩
  · intro h1
    by_cases e : j = m
    · subst e
      exact ⟨k, cutP_iff.2 ⟨hp, by omega⟩, by rw [leaf_img h subs (by omega), lfK_iff hks hk, hl]; omega⟩
    · rw [if_neg e] at h1
      obtain ⟨i, h2, h3⟩ := img_iff.1 h1
      obtain ⟨h4, h5⟩ := cutP_iff.1 h2
      exact ⟨i, cutP_iff.2 ⟨h4, by omega⟩, h3⟩
theorem lfK_le {h : Hd} {k m : Nat} (hk : 1 ≤ h.kind ∧ h.kind ≤ 4) (hks : k ≤ s.size) (hl : lfK s c e tn h k = (m : Int)) : m ≤ s.size := by
  have h1 := (lfK_iff (s := s) (c := c) (e := e) (t := tn) (h := h) hks hk (m : Int)).2 ⟨hl, by omega⟩
  have := lfR_ok s c e tn h k m h1
  omega

set_option maxRecDepth 100000 in
set_option maxHeartbeats 32000000 in
theorem over_one (h : Hd) (subs : List Nd) (IH : ∀ t ∈ subs, OverOf s c e tn t) (hs : s.size ≤ 1000000) (hll : subs.length ≤ 1000000) : OverOf s c e tn (.mk h subs) := by
  intro svn v p w hf hn hr hp
  have hcase := form_cases hf
  have hsub := form_sub hf
  have hL := lfR_ok s c e tn
  have HRN : Hid (h.kind = 8 → ∀ W v q, Ext w W → ∀ nk, subs = [nk] → RdBl W v (s.size + 1) q → PlN s.size q → Calls Tryz.prog 78 #[nodeV h svn, srV s c e tn, v] W (OverR s W (img (rpR (tkN (lfR s c e tn) nk) h.min h.max) q))) := Lib.hid (fun hk8 W v q hW nk e1 h1 h2 => by
    subst e1
    exact rrounds_one h nk hk8 (IH nk (by simp)) hs svn v q W hf (NdOk.ext hW _ _ hn) h1 h2)
  have HP := Lib.hid hp
  have HRD := Lib.hid hr
  obtain ⟨A, ca, rfl, _⟩ := hr.shape
  have HNO := Lib.hid (fun W => rNone_any (s := s) (c := c) (e := e) (t := tn) W hs)
  have HSO := Lib.hid (fun W (hW : Ext w W) => rsome_any _ (s.size + 1) p W (HRD.out.ext hW) (by omega))
  have HLF := Lib.hid (fun (i : Nat) (hi : i ≤ s.size) (hk : 1 ≤ h.kind ∧ h.kind ≤ 4) W => rleaf_any (s := s) (c := c) (e := e) (t := tn) h svn i W hs hi hk)
  have HOV := Lib.hid (fun (k : Nat) (hk : k < subs.length) sv0 W v q (hW : Ext w W) (hok : NdOk w subs[k] sv0) (h1 : RdBl W v (s.size + 1) q) (h2 : PlN s.size q) => IH subs[k] (List.getElem_mem hk) sv0 v q W (hsub _ (List.getElem_mem hk)) (NdOk.ext hW _ _ hok) h1 h2)
  obtain ⟨SA, sc, rfl, hNs⟩ := hn
  have HNS := Lib.hid hNs
  have HSZ := Lib.hid (someBl_no_n hp)
  have hn0 : 0 < s.size + 1 := by omega
  have hn8 : s.size + 1 ≤ 100000000 := by omega
  obtain ⟨n, hnn⟩ : ∃ n, n = s.size + 1 := ⟨_, rfl⟩
  have HN := Lib.hid hnn
  unfold OverR at HOV HRN ⊢
  rw [← hnn] at HOV HRN HRD HNO HSO HSZ hn0 hn8 ⊢
  simp only [Nd.h] at *
  clear hsub hNs hr hp hf IH hnn
  unfold srV at HOV HNO HLF HRN ⊢
  go_enter Tryz.func60, Tryz.ntmps60
  go_upto_region 1 with (refine wpl_boxNd rfl _ rfl h _ rfl ?_; intro z w1 hb hx1 ez sz)
  have hV := Blk.new w1 35 #[.string s, .int .i64 c, .int .i64 e, .bool tn]
  have hx2 := hx1.alloc (.cells #[.string s, .int .i64 c, .int .i64 e, .bool tn] 35)
  replace hb := hb.ext ((Ext.refl w1).alloc (.cells #[.string s, .int .i64 c, .int .i64 e, .bool tn] 35))
  generalize w1.alloc (.cells #[.string s, .int .i64 c, .int .i64 e, .bool tn] 35) = w2 at *
  generalize w1.heap.size = gu at *
  have k0 : w2.cell? ⟨z, 0, none⟩ = some (.int .i64 h.kind) := hb.cell 0
  have HK5 : Hid (w2.cell? ⟨z, 5, none⟩ = some (.slice SA subs.length sc)) := Lib.hid (hb.cell 5)
  have HZ := Lib.hid (fun W (hW : Ext w2 W) => (hb.ext hW).nd)
  have v0 : w2.cell? ⟨gu, 0, none⟩ = some (.string s) := hV.cell 0
  have v1 : w2.cell? ⟨gu, 1, none⟩ = some (.int .i64 c) := hV.cell 1
  have v2 : w2.cell? ⟨gu, 2, none⟩ = some (.int .i64 e) := hV.cell 2
  have v3 : w2.cell? ⟨gu, 3, none⟩ = some (.bool tn) := hV.cell 3
  have HV0 := Lib.hid v0
  have HV1 := Lib.hid v1
  have HV2 := Lib.hid v2
  have HV3 := Lib.hid v3
  have HX2 := Lib.hid hx2
  clear hb hV hx1 ez sz hx2
  by_cases hz : someBl n p = true
  case neg =>
    have hz' : someBl n p = false := by simpa using hz
    rw [hz'] at HSO
    have hno := HSZ.out.1 hz'
    have HFN : Hid (img (tkN (lfR s c e tn) (.mk h subs)) p = noP) := Lib.hid (by rw [hno]; exact img_noP _)
    clear hz hz' hno HOV HRN HLF HNS k0
    go_wp2_with (first
      | (go_at_call 75; refine (HNO.out _).mono ?_; rintro e w3 ⟨v3', rfl, ho3, hx3⟩; obtain ⟨A3, c3, hv3, _⟩ := (RdBl.of_own ho3).shape; subst hv3)
      | (go_at_call 76; refine (HSO.out _ (HX2.out.trans hx3)).mono ?_; rintro e w4 ⟨rfl, rfl⟩))
    go_ret
    exact ⟨_, rfl, by rw [HFN.out]; exact RdBl.of_own ho3, HX2.out.trans hx3⟩
  rw [hz] at HSO
  go_upto_region 5 with (first
    | (go_at_call 75; refine (HNO.out _).mono ?_; rintro e w3 ⟨v3', rfl, ho3, hx3⟩; obtain ⟨g3, c3, cur3, hv3, hg3, hb3, _⟩ := own_bools ho3 hn0; subst hv3)
    | (go_at_call 76; refine (HSO.out _ (HX2.out.trans hx3)).mono ?_; rintro e w4 ⟨rfl, rfl⟩))
  have HX3 := Lib.hid (HX2.out.trans hx3)
  have HX23 := Lib.hid hx3
  have HO3 := Lib.hid ho3
  have HG3 := Lib.hid hg3
  replace k0 := hx3.cell k0
  have HRD3 := Lib.hid (HRD.out.ext HX3.out)
  clear hz HSZ HSO HNO hx3 ho3 hg3 hb3 v0 v1 v2 v3
  have hx33 := Ext.refl w3
  by_cases t5 : h.kind = 5
  · -- trees one behind the other
    have HF : Hid (img (tkN (lfR s c e tn) (.mk h subs)) p = img (tkS (lfR s c e tn) subs) p) := Lib.hid (img_congr HP.out fun a b _ _ _ => tk_seq h subs t5 a b)
    rw [t5] at k0
    clear t5 HRN HLF hcase
    go_upto_region 8 with fail
    clear k0
    go_loopw [2, 9] (fun fv iv wr => ∃ k : Nat, k ≤ subs.length ∧ iv = .int .i64 k ∧ RdBl wr fv n (img (tkS (lfR s c e tn) (subs.take k)) p) ∧ Ext w3 wr) (fun _ iv _ => subs.length - (intOf iv).toNat)
    case atStart => exact ⟨0, Nat.zero_le _, rfl, by rw [List.take_zero, show tkS (lfR s c e tn) [] = Rl.id from by funext a b; rw [tkS]; rfl, img_id]; exact HRD3.out, hx33⟩
    case round =>
      clear hx33
      obtain ⟨k, hkl, rfl, hr, hx⟩ := hrel
      obtain ⟨w4, hw4⟩ : ∃ w, w = wr := ⟨_, rfl⟩
      subst hw4
      have HX34 := Lib.hid hx
      have HX24 := Lib.hid (HX23.out.trans hx)
      have HX4 := Lib.hid (HX3.out.trans hx)
      have HR4 := Lib.hid hr
      obtain ⟨A1, c1, rfl, _⟩ := hr.shape
      have k5 := HX24.out.cell HK5.out
      clear hr hx
      by_cases hlt : k < subs.length
      · have q9 : (k : Int) < (subs.length : Int) := by omega
        obtain ⟨g0, o0, sv0, rfl, hat, hok⟩ := HNS.out.get k hlt
        have hatw : NdAt w g0 (o0 + k * 10) (subs[k]).h sv0 := fun i hi => by have := hat i hi; rwa [Nat.zero_add] at this
        have HAT := Lib.hid (hatw.ext HX4.out)
        have HST : Hid (img (tkN (lfR s c e tn) subs[k]) (img (tkS (lfR s c e tn) (subs.take k)) p) = img (tkS (lfR s c e tn) (subs.take (k + 1))) p) := Lib.hid (parts_step hL false subs k hlt hlt HP.out).symm
        generalize hqp : img (tkS (lfR s c e tn) (subs.take k)) p = qp at *
        have HPQ : Hid (PlN s.size qp) := Lib.hid (by rw [← hqp]; exact HP.out.img (tkS_mon hL _).inn)
        have HLD := Lib.hid (fun W' (hW : Ext w4 W') => HOV.out k hlt sv0 W' (.slice A1 n c1) qp (HX4.out.trans hW) hok (HR4.out.ext hW) HPQ.out)
        have z5 := k5
        have y0 := HX24.out.cell HV0.out
        have y1 := HX24.out.cell HV1.out
        have y2 := HX24.out.cell HV2.out
        have y3 := HX24.out.cell HV3.out
        clear hqp hat hatw hok
        generalize tkN (lfR s c e tn) subs[k] = R at *
        generalize subs[k] = nk at *
        go_upto_region 10 with fail
        clear k5
        refine wp_region_predz 31 8 [fun v _ => v = .pointer (some ⟨z, 5, none⟩), fun v _ => v = .slice (some ⟨g0, o0, none⟩) subs.length sc, fun v _ => v = .int .i64 k, fun v _ => v = .pointer (some ⟨g0, o0 + k * 10, none⟩), fun v _ => v = nodeV nk.h sv0, fun v _ => v = .agg #[.string s, .int .i64 c, .int .i64 e, .bool tn], fun v _ => v = .slice A1 n c1, fun v W' => RdBl W' v n (img R qp)] (Lasts.nil.cons fun (v : Value) V V' hx (h : RdBl V v n (img R qp)) => (h.ext hx : RdBl V' v n (img R qp))).is.is.is.is.is.is.is (by kernel_rfl) (by kernel_rfl) (by kernel_rfl) (by kernel_rfl) (by kernel_rfl) (by kernel_rfl) (by kernel_rfl) ?_
        intro T hT
        have r6 : List.range 8 = [0, 1, 2, 3, 4, 5, 6, 7] := rfl
        simp only [spliceT, r6, List.map_cons, List.map_nil, List.take_succ_cons, List.take_zero, List.drop_succ_cons, List.drop_zero, List.cons_append, List.nil_append, Nat.reduceAdd] at hT
        simp only [List.take_succ_cons, List.take_zero, List.drop_succ_cons, List.drop_zero, AllS, Nat.reduceAdd]
        refine ⟨⟨?_, ?_, ?_, ?_, ?_, ?_, ?_, ?_, trivial⟩, ?_⟩
        · intro u W' hx hd'
          clear hd'
          rw [hT u]
          go_wp2
          exact stepQ_mk ⟨Ext.refl _, _, by first | (rw [hT]; simp [updN]) | simp [updN], rfl⟩
        · intro u W' hx hd'
          have t0 := hd' 0 (mem_of (by kernel_rfl))
          clear hd'
          replace t0 : u 0 = _ := t0
          rw [hT u, t0]
          have qf := hx.cell z5
          go_wp2
          exact stepQ_mk ⟨Ext.refl _, _, by first | (rw [hT]; simp [updN, t0]) | simp [updN, t0], rfl⟩
        · intro u W' hx hd'
          clear hd'
          rw [hT u]
          go_wp2
          exact stepQ_mk ⟨Ext.refl _, _, by first | (rw [hT]; simp [updN]) | simp [updN], rfl⟩
        · intro u W' hx hd'
          have t1 := hd' 1 (mem_of (by kernel_rfl))
          have t2 := hd' 2 (mem_of (by kernel_rfl))
          clear hd'
          replace t1 : u 1 = _ := t1
          replace t2 : u 2 = _ := t2
          rw [hT u, t1, t2]
          go_wp2
          exact stepQ_mk ⟨Ext.refl _, _, by first | (rw [hT]; simp [updN, t1, t2]) | simp [updN, t1, t2], rfl⟩
        · intro u W' hx hd'
          have t3 := hd' 3 (mem_of (by kernel_rfl))
          clear hd'
          replace t3 : u 3 = _ := t3
          rw [hT u, t3]
          go_wp2_with (refine wpl_loadNd rfl _ rfl g0 (o0 + k * 10) nk.h sv0 rfl (HAT.out.ext hx) ?_)
          exact stepQ_mk ⟨Ext.refl _, _, by first | (rw [hT]; simp [updN, t3]) | simp [updN, t3], rfl⟩
        · intro u W' hx hd'
          clear hd'
          rw [hT u]
          have q0 := hx.cell y0
          have q1 := hx.cell y1
          have q2 := hx.cell y2
          have q3 := hx.cell y3
          go_wp2
          exact stepQ_mk ⟨Ext.refl _, _, by first | (rw [hT]; simp [updN]) | simp [updN], rfl⟩
        · intro u W' hx hd'
          clear hd'
          rw [hT u]
          go_wp2
          exact stepQ_mk ⟨Ext.refl _, _, by first | (rw [hT]; simp [updN]) | simp [updN], rfl⟩
        · intro u W' hx hd'
          have t4 := hd' 4 (mem_of (by kernel_rfl))
          have t5 := hd' 5 (mem_of (by kernel_rfl))
          have t6 := hd' 6 (mem_of (by kernel_rfl))
          clear hd'
          replace t4 : u 4 = _ := t4
          replace t5 : u 5 = _ := t5
          replace t6 : u 6 = _ := t6
          rw [hT u, t4, t5, t6]
          have HCY := Lib.hid (HLD.out W' (hx))
          go_wp2_with (go_at_call 60; refine HCY.out.mono ?_; rintro e w6 ⟨v6, rfl, hr6, hx6⟩)
          exact stepQ_mk ⟨hx6, _, by first | (rw [hT]; simp [updN, t4, t5, t6]) | simp [updN, t4, t5, t6], hr6⟩
        · intro u W' hx hp
          have tE : RdBl W' (u 7) n (img R qp) := hp 7 (by omega)
          clear hp
          rw [hT u]
          clear hT
          have HTE := Lib.hid tE
          obtain ⟨A9, c9, hv9, _⟩ := tE
          have HXX := Lib.hid hx
          clear hx
          generalize u 7 = v10 at *
          subst hv9
          go_wp2
          go_roundw
          case rel => exact ⟨k + 1, hlt, by go_num, by rw [← HST.out]; exact HTE.out, HX34.out.trans HXX.out⟩
          case measure => simp [intOf]; omega
      · have q9 : ¬ (k : Int) < (subs.length : Int) := by omega
        have e1 : subs.take k = subs := List.take_of_length_le (by omega)
        have HR5 : Hid (RdBl w4 (.slice A1 n c1) n (img (tkS (lfR s c e tn) subs) p)) := Lib.hid (by rw [← e1]; exact HR4.out)
        clear HR4 e1
        go_wp2
        go_ret
        exact ⟨_, rfl, by rw [HF.out]; exact HR5.out, HX4.out⟩
  have b5 : (h.kind == 5) = false := by rw [beq_eq_false_iff_ne]; exact t5
  by_cases t6 : h.kind = 6
  · -- one of some trees
    have HF : Hid (img (tkN (lfR s c e tn) (.mk h subs)) p = img (tkA (lfR s c e tn) subs) p) := Lib.hid (img_congr HP.out fun a b _ _ _ => tk_alt h subs t6 a b)
    rw [t6] at k0
    clear t5 t6 b5 HRN HLF hcase
    go_upto_region 14 with fail
    clear k0
    go_loopw [7, 10] (fun tv iv wr => ∃ k : Nat, k ≤ subs.length ∧ iv = .int .i64 k ∧ RdBl wr tv n (img (tkA (lfR s c e tn) (subs.take k)) p) ∧ Ext w3 wr) (fun _ iv _ => subs.length - (intOf iv).toNat)
    case atStart => exact ⟨0, Nat.zero_le _, rfl, by rw [List.take_zero, show img (tkA (lfR s c e tn) []) p = noP from alt_none (L := lfR s c e tn) false p]; exact RdBl.of_own HO3.out, hx33⟩
    case round =>
      clear hx33
      obtain ⟨k, hkl, rfl, hr, hx⟩ := hrel
      obtain ⟨w4, hw4⟩ : ∃ w, w = wr := ⟨_, rfl⟩
      subst hw4
      have HX34 := Lib.hid hx
      have HX24 := Lib.hid (HX23.out.trans hx)
      have HX4 := Lib.hid (HX3.out.trans hx)
      have HR4 := Lib.hid hr
      obtain ⟨A1, c1, rfl, _⟩ := hr.shape
      have k5 := HX24.out.cell HK5.out
      clear hr hx
      by_cases hlt : k < subs.length
      · have q9 : (k : Int) < (subs.length : Int) := by omega
        obtain ⟨g0, o0, sv0, rfl, hat, hok⟩ := HNS.out.get k hlt
        have hatw : NdAt w g0 (o0 + k * 10) (subs[k]).h sv0 := fun i hi => by have := hat i hi; rwa [Nat.zero_add] at this
        have HAT := Lib.hid (hatw.ext HX4.out)
        have HST : Hid (orP (img (tkA (lfR s c e tn) (subs.take k)) p) (img (tkN (lfR s c e tn) subs[k]) p) = img (tkA (lfR s c e tn) (subs.take (k + 1))) p) := Lib.hid (alt_step false subs k hlt p).symm
        generalize hqa : img (tkA (lfR s c e tn) (subs.take k)) p = qa at *
        obtain ⟨qp, hqp⟩ : ∃ qp, qp = p := ⟨_, rfl⟩
        have HPQ : Hid (PlN s.size qp) := Lib.hid (by rw [hqp]; exact HP.out)
        have HRP : Hid (RdBl w3 (.slice A n ca) n qp) := Lib.hid (by rw [hqp]; exact HRD3.out)
        rw [← hqp] at HST
        have HLD := Lib.hid (fun W' (hW : Ext w4 W') => HOV.out k hlt sv0 W' (.slice A n ca) qp (HX4.out.trans hW) hok (HRP.out.ext (HX34.out.trans hW)) HPQ.out)
        have HAL := Lib.hid HR4.out
        have z5 := k5
        have y0 := HX24.out.cell HV0.out
        have y1 := HX24.out.cell HV1.out
        have y2 := HX24.out.cell HV2.out
        have y3 := HX24.out.cell HV3.out
        have HQP := Lib.hid hqp
        clear hqp hqa hat hatw hok
        generalize tkN (lfR s c e tn) subs[k] = R at *
        generalize subs[k] = nk at *
        go_upto_region 16 with fail
        clear k5
        refine wp_region_predz 49 10 [fun v _ => v = (.slice A1 n c1), fun v _ => v = .pointer (some ⟨z, 5, none⟩), fun v _ => v = .slice (some ⟨g0, o0, none⟩) subs.length sc, fun v _ => v = .int .i64 k, fun v _ => v = .pointer (some ⟨g0, o0 + k * 10, none⟩), fun v _ => v = nodeV nk.h sv0, fun v _ => v = .agg #[.string s, .int .i64 c, .int .i64 e, .bool tn], fun v _ => v = .slice A n ca, fun v W' => RdBl W' v n (img R qp), fun v W' => RdBl W' v n ((orP qa (img R qp)))] ((Lasts.nil.cons fun (v : Value) V V' hx (h : RdBl V v n ((orP qa (img R qp)))) => (h.ext hx : RdBl V' v n ((orP qa (img R qp))))).cons fun (v : Value) V V' hx (h : RdBl V v n (img R qp)) => (h.ext hx : RdBl V' v n (img R qp))).is.is.is.is.is.is.is.is (by kernel_rfl) (by kernel_rfl) (by kernel_rfl) (by kernel_rfl) (by kernel_rfl) (by kernel_rfl) (by kernel_rfl) ?_
        intro T hT
        have r6 : List.range 10 = [0, 1, 2, 3, 4, 5, 6, 7, 8, 9] := rfl
        simp only [spliceT, r6, List.map_cons, List.map_nil, List.take_succ_cons, List.take_zero, List.drop_succ_cons, List.drop_zero, List.cons_append, List.nil_append, Nat.reduceAdd] at hT
        simp only [List.take_succ_cons, List.take_zero, List.drop_succ_cons, List.drop_zero, AllS, Nat.reduceAdd]
        refine ⟨⟨?_, ?_, ?_, ?_, ?_, ?_, ?_, ?_, ?_, ?_, trivial⟩, ?_⟩
        · intro u W' hx hd'
          clear hd'
          rw [hT u]
          go_wp2
          exact stepQ_mk ⟨Ext.refl _, _, by first | (rw [hT]; simp [updN]) | simp [updN], rfl⟩
        · intro u W' hx hd'
          clear hd'
          rw [hT u]
          go_wp2
          exact stepQ_mk ⟨Ext.refl _, _, by first | (rw [hT]; simp [updN]) | simp [updN], rfl⟩
        · intro u W' hx hd'
          have t1 := hd' 1 (mem_of (by kernel_rfl))
          clear hd'
          replace t1 : u 1 = _ := t1
          rw [hT u, t1]
          have qf := hx.cell z5
          go_wp2
          exact stepQ_mk ⟨Ext.refl _, _, by first | (rw [hT]; simp [updN, t1]) | simp [updN, t1], rfl⟩
        · intro u W' hx hd'
          clear hd'
          rw [hT u]
          go_wp2
          exact stepQ_mk ⟨Ext.refl _, _, by first | (rw [hT]; simp [updN]) | simp [updN], rfl⟩
        · intro u W' hx hd'
          have t2 := hd' 2 (mem_of (by kernel_rfl))
          have t3 := hd' 3 (mem_of (by kernel_rfl))
          clear hd'
          replace t2 : u 2 = _ := t2
          replace t3 : u 3 = _ := t3
          rw [hT u, t2, t3]
          go_wp2
          exact stepQ_mk ⟨Ext.refl _, _, by first | (rw [hT]; simp [updN, t2, t3]) | simp [updN, t2, t3], rfl⟩
        · intro u W' hx hd'
          have t4 := hd' 4 (mem_of (by kernel_rfl))
          clear hd'
          replace t4 : u 4 = _ := t4
          rw [hT u, t4]
          go_wp2_with (refine wpl_loadNd rfl _ rfl g0 (o0 + k * 10) nk.h sv0 rfl (HAT.out.ext hx) ?_)
          exact stepQ_mk ⟨Ext.refl _, _, by first | (rw [hT]; simp [updN, t4]) | simp [updN, t4], rfl⟩
        · intro u W' hx hd'
          clear hd'
          rw [hT u]
          have q0 := hx.cell y0
          have q1 := hx.cell y1
          have q2 := hx.cell y2
          have q3 := hx.cell y3
          go_wp2
          exact stepQ_mk ⟨Ext.refl _, _, by first | (rw [hT]; simp [updN]) | simp [updN], rfl⟩
        · intro u W' hx hd'
          clear hd'
          rw [hT u]
          go_wp2
          exact stepQ_mk ⟨Ext.refl _, _, by first | (rw [hT]; simp [updN]) | simp [updN], rfl⟩
        · intro u W' hx hd'
          have t5 := hd' 5 (mem_of (by kernel_rfl))
          have t6 := hd' 6 (mem_of (by kernel_rfl))
          have t7 := hd' 7 (mem_of (by kernel_rfl))
          clear hd'
          replace t5 : u 5 = _ := t5
          replace t6 : u 6 = _ := t6
          replace t7 : u 7 = _ := t7
          rw [hT u, t5, t6, t7]
          have HCY := Lib.hid (HLD.out W' (hx))
          go_wp2_with (go_at_call 60; refine HCY.out.mono ?_; rintro e w6 ⟨v6, rfl, hr6, hx6⟩)
          exact stepQ_mk ⟨hx6, _, by first | (rw [hT]; simp [updN, t5, t6, t7]) | simp [updN, t5, t6, t7], hr6⟩
        · intro u W' hx hd'
          have t0 := hd' 0 (mem_of (by kernel_rfl))
          have t8 := hd' 8 (mem_of (by kernel_rfl))
          clear hd'
          replace t0 : u 0 = _ := t0
          replace t8 : RdBl W' (u 8) n (img R qp) := t8
          rw [hT u, t0]
          have HCY := Lib.hid (rboth_any (.slice A1 n c1) (u 8) n _ _ W' (HAL.out.ext hx) t8 hn8 hn0)
          obtain ⟨A9, c9, hv9, _⟩ := t8
          generalize hu9 : u 8 = v9 at *
          have HU9 := Lib.hid hu9
          subst hv9
          go_wp2_with (go_at_call 77; refine HCY.out.mono ?_; rintro e w6 ⟨v6, rfl, ho6, hx6⟩)
          exact stepQ_mk ⟨hx6, _, by first | (rw [hT]; simp [updN, t0, HU9.out]) | simp [updN, t0, HU9.out], RdBl.of_own ho6⟩
        · intro u W' hx hp
          have tE : RdBl W' (u 9) n ((orP qa (img R qp))) := hp 9 (by omega)
          clear hp
          rw [hT u]
          clear hT
          have HTE := Lib.hid tE
          obtain ⟨A9, c9, hv9, _⟩ := tE
          have HXX := Lib.hid hx
          clear hx
          generalize u 9 = v10 at *
          subst hv9
          go_wp2
          go_roundw
          case rel => exact ⟨k + 1, hlt, by go_num, by rw [← HQP.out, ← HST.out]; exact HTE.out, HX34.out.trans HXX.out⟩
          case measure => simp [intOf]; omega
      · have q9 : ¬ (k : Int) < (subs.length : Int) := by omega
        have e1 : subs.take k = subs := List.take_of_length_le (by omega)
        have HR5 : Hid (RdBl w4 (.slice A1 n c1) n (img (tkA (lfR s c e tn) subs) p)) := Lib.hid (by rw [← e1]; exact HR4.out)
        clear HR4 e1
        go_wp2
        go_ret
        exact ⟨_, rfl, by rw [HF.out]; exact HR5.out, HX4.out⟩
  have b6 : (h.kind == 6) = false := by rw [beq_eq_false_iff_ne]; exact t6
  by_cases t7 : h.kind = 7
  · -- a group
    obtain ⟨nk, rfl⟩ := List.length_eq_one_iff.1 (show subs.length = 1 by omega)
    have HF : Hid (img (tkN (lfR s c e tn) (.mk h [nk])) p = img (tkN (lfR s c e tn) nk) p) := Lib.hid (img_congr HP.out fun a b _ _ _ => tk_group h nk t7 a b)
    rw [t7] at k0
    obtain ⟨g0, o0, sv0, rfl, hat, hok⟩ := HNS.out.get 0 (by simp)
    simp only [List.getElem_cons_zero, Nat.zero_mul, Nat.add_zero] at hat hok
    have hatw : NdAt w g0 o0 nk.h sv0 := fun i hi => hat i hi
    have HAT := Lib.hid (hatw.ext HX3.out)
    obtain ⟨qp, hqp⟩ : ∃ qp, qp = p := ⟨_, rfl⟩
    have HPQ : Hid (PlN s.size qp) := Lib.hid (by rw [hqp]; exact HP.out)
    have HRP : Hid (RdBl w3 (.slice A n ca) n qp) := Lib.hid (by rw [hqp]; exact HRD3.out)
    have HF2 : Hid (img (tkN (lfR s c e tn) (.mk h [nk])) p = img (tkN (lfR s c e tn) nk) qp) := Lib.hid (by rw [HF.out, hqp])
    have HLD := Lib.hid (fun W' (hW : Ext w3 W') => (HOV.out 0 (by simp) sv0 W' (.slice A n ca) qp (HX3.out.trans hW) hok (HRP.out.ext hW) HPQ.out))
    simp only [List.getElem_cons_zero] at HLD
    have z5 := HX23.out.cell HK5.out
    have y0 := HX23.out.cell HV0.out
    have y1 := HX23.out.cell HV1.out
    have y2 := HX23.out.cell HV2.out
    have y3 := HX23.out.cell HV3.out
    clear t5 t6 t7 b5 b6 HRN HLF hcase hqp hat hatw hok HOV HF hx33
    simp only [List.length_cons, List.length_nil] at z5
    generalize hR : tkN (lfR s c e tn) nk = R at *
    have HRR := Lib.hid hR
    clear hR
    go_upto_region 19 with fail
    clear k0
    refine wp_region_predz 62 7 [fun v _ => v = .pointer (some ⟨z, 5, none⟩), fun v _ => v = .slice (some ⟨g0, o0, none⟩) 1 sc, fun v _ => v = .pointer (some ⟨g0, o0, none⟩), fun v _ => v = nodeV nk.h sv0, fun v _ => v = .agg #[.string s, .int .i64 c, .int .i64 e, .bool tn], fun v _ => v = .slice A n ca, fun v W' => RdBl W' v n (img R qp)] (Lasts.nil.cons fun (v : Value) V V' hx (h : RdBl V v n (img R qp)) => (h.ext hx : RdBl V' v n (img R qp))).is.is.is.is.is.is (by kernel_rfl) (by kernel_rfl) (by kernel_rfl) (by kernel_rfl) (by kernel_rfl) (by kernel_rfl) (by kernel_rfl) ?_
    intro T hT
    have r6 : List.range 7 = [0, 1, 2, 3, 4, 5, 6] := rfl
    simp only [spliceT, r6, List.map_cons, List.map_nil, List.take_succ_cons, List.take_zero, List.drop_succ_cons, List.drop_zero, List.cons_append, List.nil_append, Nat.reduceAdd] at hT
    simp only [List.take_succ_cons, List.take_zero, List.drop_succ_cons, List.drop_zero, AllS, Nat.reduceAdd]
    refine ⟨⟨?_, ?_, ?_, ?_, ?_, ?_, ?_, trivial⟩, ?_⟩
    · intro u W' hx hd'
      clear hd'
      rw [hT u]
      go_wp2
      exact stepQ_mk ⟨Ext.refl _, _, by first | (rw [hT]; simp [updN]) | simp [updN], rfl⟩
    · intro u W' hx hd'
      have t0 := hd' 0 (mem_of (by kernel_rfl))
      clear hd'
      replace t0 : u 0 = _ := t0
      rw [hT u, t0]
      have qf := hx.cell z5
      go_wp2
      exact stepQ_mk ⟨Ext.refl _, _, by first | (rw [hT]; simp [updN, t0]) | simp [updN, t0], rfl⟩
    · intro u W' hx hd'
      have t1 := hd' 1 (mem_of (by kernel_rfl))
      clear hd'
      replace t1 : u 1 = _ := t1
      rw [hT u, t1]
      go_wp2
      exact stepQ_mk ⟨Ext.refl _, _, by first | (rw [hT]; simp [updN, t1]) | simp [updN, t1], rfl⟩
    · intro u W' hx hd'
      have t2 := hd' 2 (mem_of (by kernel_rfl))
      clear hd'
      replace t2 : u 2 = _ := t2
      rw [hT u, t2]
      go_wp2_with (refine wpl_loadNd rfl _ rfl g0 (o0) nk.h sv0 rfl (HAT.out.ext hx) ?_)
      exact stepQ_mk ⟨Ext.refl _, _, by first | (rw [hT]; simp [updN, t2]) | simp [updN, t2], rfl⟩
    · intro u W' hx hd'
      clear hd'
      rw [hT u]
      have q0 := hx.cell y0
      have q1 := hx.cell y1
      have q2 := hx.cell y2
      have q3 := hx.cell y3
      go_wp2
      exact stepQ_mk ⟨Ext.refl _, _, by first | (rw [hT]; simp [updN]) | simp [updN], rfl⟩
    · intro u W' hx hd'
      clear hd'
      rw [hT u]
      go_wp2
      exact stepQ_mk ⟨Ext.refl _, _, by first | (rw [hT]; simp [updN]) | simp [updN], rfl⟩
    · intro u W' hx hd'
      have t3 := hd' 3 (mem_of (by kernel_rfl))
      have t4 := hd' 4 (mem_of (by kernel_rfl))
      have t5 := hd' 5 (mem_of (by kernel_rfl))
      clear hd'
      replace t3 : u 3 = _ := t3
      replace t4 : u 4 = _ := t4
      replace t5 : u 5 = _ := t5
      rw [hT u, t3, t4, t5]
      have HCY := Lib.hid (HLD.out W' (hx))
      go_wp2_with (go_at_call 60; refine HCY.out.mono ?_; rintro e w6 ⟨v6, rfl, hr6, hx6⟩)
      exact stepQ_mk ⟨hx6, _, by first | (rw [hT]; simp [updN, t3, t4, t5]) | simp [updN, t3, t4, t5], hr6⟩
    · intro u W' hx hp
      have tE : RdBl W' (u 6) n (img R qp) := hp 6 (by omega)
      clear hp
      rw [hT u]
      clear hT
      have HTE := Lib.hid tE
      obtain ⟨A9, c9, hv9, _⟩ := tE
      have HXX := Lib.hid hx
      clear hx
      generalize u 6 = v10 at *
      subst hv9
      go_wp2
      go_ret
      exact ⟨_, rfl, by rw [HF2.out]; exact HTE.out, HX3.out.trans HXX.out⟩
  have b7 : (h.kind == 7) = false := by rw [beq_eq_false_iff_ne]; exact t7
  by_cases t8 : h.kind = 8
  · -- a repeat
    obtain ⟨nk, rfl⟩ := List.length_eq_one_iff.1 (show subs.length = 1 by omega)
    have HF : Hid (img (tkN (lfR s c e tn) (.mk h [nk])) p = img (rpR (tkN (lfR s c e tn) nk) h.min h.max) p) := Lib.hid (img_congr HP.out fun a b _ _ _ => tk_rep h nk t8 a b)
    have HC := Lib.hid (HRN.out t8 w3 _ p HX3.out nk rfl HRD3.out HP.out)
    have v0 := HX23.out.cell HV0.out
    have v1 := HX23.out.cell HV1.out
    have v2 := HX23.out.cell HV2.out
    have v3 := HX23.out.cell HV3.out
    rw [t8] at k0
    clear t5 t6 t7 t8 b5 b6 b7 HRN HLF hcase HOV hx33
    go_wp2_with (first
      | (refine wpl_loadNd rfl _ rfl z 0 h _ rfl (HZ.out _ HX23.out) ?_)
      | (go_at_call 78; refine HC.out.mono ?_; rintro e w5 ⟨v5, rfl, hr5, hx5⟩))
    go_ret
    exact ⟨_, rfl, by rw [HF.out]; exact hr5, HX3.out.trans hx5⟩
  have b8 : (h.kind == 8) = false := by rw [beq_eq_false_iff_ne]; exact t8
  have hk4 : 1 ≤ h.kind ∧ h.kind ≤ 4 := by omega
  have HLF2 := Lib.hid (fun i hi => HLF.out i hi hk4)
  have HK4 := Lib.hid hk4
  obtain ⟨kd, hkd⟩ : ∃ kd, kd = h.kind := ⟨_, rfl⟩
  rw [← hkd] at k0 b5 b6 b7 b8
  clear t5 t6 t7 t8 hkd hk4 HRN HLF hcase HOV hx33
  go_upto_region 23 with fail
  clear k0 b5 b6 b7 b8
  go_loopw [11] (fun iv wr => ∃ k : Nat, k ≤ n ∧ iv = .int .i64 k ∧ OwnBl wr w2.heap.size (.slice (some ⟨g3, 0, none⟩) n c3) n (img (tkN (lfR s c e tn) (.mk h subs)) (cutP p k)) ∧ Keeps (· = g3) w3 wr) (fun iv _ => n - (intOf iv).toNat)
  case atStart => exact ⟨0, Nat.zero_le _, rfl, by rw [cutP_zero, img_noP]; exact HO3.out, Keeps.refl _ _⟩
  case round =>
    obtain ⟨k, hkl, rfl, ho, hK⟩ := hrel
    obtain ⟨w4, hw4⟩ : ∃ w, w = wr := ⟨_, rfl⟩
    subst hw4
    have HX24 := Lib.hid (HX23.out.keep1 hK HG3.out)
    have HX4 := Lib.hid (HX2.out.trans HX24.out)
    have HO4 := Lib.hid ho
    have HK3 := Lib.hid hK
    clear ho hK
    by_cases hlt : k < n
    · have q9 : (k : Int) < (n : Int) := by omega
      have hks : k ≤ s.size := by have := HN.out; omega
      obtain ⟨A1, cc1, hA1, hcc⟩ := HRD.out.ext HX4.out
      obtain ⟨g1, o1, e1, cl⟩ := hcc k hlt
      injection hA1 with e2 e3 e4
      rw [← e2] at e1
      clear e2 e3 e4 hcc
      subst e1
      have y0 := HX24.out.cell HV0.out
      have y1 := HX24.out.cell HV1.out
      have y2 := HX24.out.cell HV2.out
      have y3 := HX24.out.cell HV3.out
      by_cases hpk : p k = true
      · have HLK := Lib.hid (HLF2.out k hks)
        have HLN := Lib.hid (fun hl => leaf_none (s := s) (c := c) (e := e) (tn := tn) (h := h) (subs := subs) HK4.out hks hpk hl)
        have HLS := Lib.hid (fun m hl => leaf_some (s := s) (c := c) (e := e) (tn := tn) (h := h) (subs := subs) (m := m) HK4.out hks hpk hl)
        have HLE := Lib.hid (fun m hl => lfK_le (s := s) (c := c) (e := e) (tn := tn) (h := h) (m := m) HK4.out hks hl)
        rw [hpk] at cl
        generalize lfK s c e tn h k = lk at *
        clear hpk
        by_cases hlk : lk < 0
        · have HE := Lib.hid (HLN.out hlk)
          have q8 : ¬ (0 ≤ lk) := by omega
          clear HLN HLS HLE hlk
          go_wp2_with (first
            | (refine wpl_loadNd rfl _ rfl z 0 h _ rfl (HZ.out _ HX24.out) ?_)
            | (go_at_call 79; refine (HLK.out _).mono ?_; rintro e w5 ⟨rfl, hx5⟩))
          go_roundw
          case rel => exact ⟨k + 1, hlt, by go_num, by rw [HE.out]; exact HO4.out.ext hx5, HK3.out.trans (Keeps.of_ext hx5) (fun _ _ h => h)⟩
          case measure => simp [intOf]; omega
        · obtain ⟨m, rfl⟩ := Int.eq_ofNat_of_zero_le (show 0 ≤ lk by omega)
          have HE := Lib.hid (HLS.out m rfl)
          have hmn : m < n := by have := HLE.out m rfl; have := HN.out; omega
          have q8 : (0 : Int) ≤ (m : Int) := by omega
          have q7 : (m : Int) < (n : Int) := by omega
          clear HLN HLS HLE hlk
          go_upto_region 28 with (first
            | (refine wpl_loadNd rfl _ rfl z 0 h _ rfl (HZ.out _ HX24.out) ?_)
            | (go_at_call 79; refine (HLK.out _).mono ?_; rintro e w5 ⟨rfl, hx5⟩))
          have ho5 := HO4.out.ext hx5
          have HO5 := Lib.hid ho5
          have HX5 := Lib.hid hx5
          obtain ⟨gf, cf, curf, hsf, _, hbf, _, hcf⟩ := own_bools ho5 hn0
          injection hsf with e1 _ e3
          injection e1 with e1
          injection e1 with e1
          subst e1
          clear e3
          have cm := hcf m hmn
          have fm := hbf.frozen m
          clear hcf hbf ho5 hx5
          go_wp2
          go_roundw
          case rel =>
            have hput := OwnBl.put (q := insB1 (img (tkN (lfR s c e tn) (.mk h subs)) (cutP p k)) m) HO5.out m (fun j hj => by unfold insB1; rw [if_neg hj])
            rw [show insB1 (img (tkN (lfR s c e tn) (.mk h subs)) (cutP p k)) m m = true by unfold insB1; rw [if_pos rfl]] at hput
            exact ⟨k + 1, hlt, by go_num, by rw [HE.out]; exact hput, (HK3.out.trans (Keeps.of_ext HX5.out) (fun _ _ h => h)).trans ((Keeps.refl (· = g3) w5).setCell (p := ⟨g3, m, none⟩) (.inr rfl) _) (fun _ _ h => h)⟩
          case measure => simp [intOf]; omega
      · have hpk' : p k = false := by simpa using hpk
        have HE : Hid (cutP p (k + 1) = cutP p k) := Lib.hid (cutP_skip hpk')
        rw [hpk'] at cl
        clear hpk hpk'
        go_wp2
        go_roundw
        case rel => exact ⟨k + 1, hlt, by go_num, by rw [HE.out]; exact HO4.out, HK3.out⟩
        case measure => simp [intOf]; omega
    · have q9 : ¬ (k : Int) < (n : Int) := by omega
      have HE : Hid (cutP p k = p) := Lib.hid (by
        have e1 : k = s.size + 1 := by have := HN.out; omega
        rw [e1, cutP_all HP.out])
      rw [HE.out] at HO4
      go_wp2
      go_ret
      exact ⟨_, rfl, RdBl.of_own HO4.out, HX4.out⟩
theorem over_any (hs : s.size ≤ 1000000) : ∀ t : Nd, smallN t → OverOf s c e tn t :=
  Nd.ind fun h subs ih hsm => over_one h subs (fun t ht => ih t ht (smallL_mem hsm.2 t ht)) hs hsm.1
end

end Go.Proofs.YtgfknlkpdiejgaaGreatDoor

namespace Go.Proofs.YtgfknlkpdiejgaaGreatDoor
open Go Go.RowKit

/-- A new span; the store into it. -/
theorem wpl_allocSp {ops : Array Oper} {rest : List Oper} {o : Oper} {a : Act} {w : World} {Q : Exit → Act → World → Prop} (hgd : o.guard = none) (ho : o.op = .alloc 52)
    (hK : ∀ g w1, Blk w1 g 52 #[.int .i64 0, .int .i64 0] → Ext w w1 → w.heap.size ≤ g → g < w1.heap.size → wpList Tryz.prog ops Q rest (a.put o.dst (.pointer (some ⟨g, 0, none⟩))) w1) : wpList Tryz.prog ops Q (o :: rest) a w :=
  wpList_plain hgd fun _ hKK => by
    have hr : (execOp a.eval o).run Tryz.prog w = .ok (.value (.pointer (some ⟨w.heap.size, 0, none⟩))) (w.alloc (.cells #[.int .i64 0, .int .i64 0] 52)) := by
      unfold execOp
      rw [ho]
      simp [Instr.alloc, newVar, newRow, Value.cells]
    unfold Oper.wp
    rw [hr]
    exact hKK _ _ (hK _ _ (Blk.new w _ _) ((Ext.refl w).alloc _) (Nat.le_refl _) (by simp))
theorem wpl_storeSp {ops : Array Oper} {rest : List Oper} {o : Oper} {a : Act} {w : World} {Q : Exit → Act → World → Prop} (hgd : o.guard = none) (x y : Operand) (ho : o.op = .store 52 x y) (hd : o.dst = none) (g : Nat) (s s' : Int × Int) (hx : a.eval x = .pointer (some ⟨g, 0, none⟩)) (hy : a.eval y = .agg #[.int .i64 s.1, .int .i64 s.2]) (hB : Blk w g 52 #[.int .i64 s'.1, .int .i64 s'.2])
    (hK : ∀ w1, Blk w1 g 52 #[.int .i64 s.1, .int .i64 s.2] → Keeps (· = g) w w1 → wpList Tryz.prog ops Q rest a w1) : wpList Tryz.prog ops Q (o :: rest) a w := by
  have hpa : a.put o.dst undef = a := by rw [hd]; rfl
  rw [← hpa] at hK
  refine wpList_store_row hgd _ x y ho g #[.int .i64 s.1, .int .i64 s.2] hx hy _ #[.int .i64 s'.1, .int .i64 s'.2] hB info_sp rfl (by simp [Value.oneCell']) (hK _ (setRow_heap w g _ _ _ _ hB) ⟨rfl, rfl, rfl, by simp, fun k _ hk => setRow_other w g k _ hk⟩)
theorem RdSn.take {w : World} {A : Option Addr} {c : Nat} {l : List (Int × Int)} (h : RdSn w (.slice A l.length c) l) (k : Nat) (hk : k ≤ l.length) (c' : Nat) : RdSn w (.slice A k c') (l.take k) := by
  obtain ⟨B, d, hv, hc⟩ := h
  simp only [Value.slice.injEq] at hv
  obtain ⟨rfl, _, rfl⟩ := hv
  refine ⟨A, c', by rw [List.length_take, Nat.min_eq_left hk], fun j hj => ?_⟩
  rw [List.length_take, Nat.min_eq_left hk] at hj
  obtain ⟨g, o, h1, h2, h3⟩ := hc j (by omega)
  refine ⟨g, o, h1, ?_, ?_⟩
  · rw [List.getElem_take]; exact h2
  · rw [List.getElem_take]; exact h3

end Go.Proofs.YtgfknlkpdiejgaaGreatDoor

namespace Go.Proofs.YtgfknlkpdiejgaaGreatDoor
open Go Go.RowKit

section
variable {s : ByteArray} {c e : Int} {tn : Bool}
set_option maxRecDepth 100000 in
set_option maxHeartbeats 8000000 in
theorem rtakes_any (t : Nd) (svn : Value) (a b : Nat) (w : World) (hs : s.size ≤ 1000000) (ha : a ≤ s.size) (hb0 : b ≤ s.size) (hf : formB t = true) (hsm : smallN t) (hn : NdOk w t svn) :
    Calls Tryz.prog 33 #[nodeV t.h svn, srV s c e tn, .int .i64 a, .int .i64 b] w fun r w' => r = .returned (.bool (img (tkN (lfR s c e tn) t) (oneP a) b)) ∧ Ext w w' := by
  have HON : Hid (∀ W, Calls Tryz.prog 61 #[.agg #[.string s, .int .i64 c, .int .i64 e, .bool tn], .int .i64 a] W fun r w' => ∃ v, r = .returned v ∧ OwnBl w' W.heap.size v (s.size + 1) (oneP a) ∧ Ext W w') := Lib.hid (fun W => rOnly_any (s := s) (c := c) (e := e) (t := tn) a W hs ha)
  have HOV : Hid (∀ W v, Ext w W → RdBl W v (s.size + 1) (oneP a) → Calls Tryz.prog 60 #[.agg #[.int .i64 t.h.kind, .int .u64 (wd t.h.set 0 : Int), .int .u64 (wd t.h.set 1 : Int), .int .u64 (wd t.h.set 2 : Int), .int .u64 (wd t.h.set 3 : Int), svn, .int .i64 t.h.num, .int .i64 t.h.min, .int .i64 t.h.max, .bool t.h.bare], .agg #[.string s, .int .i64 c, .int .i64 e, .bool tn], v] W (OverR s W (img (tkN (lfR s c e tn) t) (oneP a)))) := Lib.hid (fun W v hW hr => over_any hs t hsm svn v (oneP a) W hf (NdOk.ext hW _ _ hn) hr (PlN.one ha))
  obtain ⟨A0, c0, hsv⟩ := hn.shape
  generalize tkN (lfR s c e tn) t = R at *
  generalize t.subs.length = nl at *
  subst hsv
  generalize t.h = h at *
  unfold srV OverR at *
  clear hn hf hsm
  go_enter Tryz.func33, Tryz.ntmps33
  go_upto_region 1 with (refine wpl_boxNd rfl _ rfl h _ rfl ?_; intro z w1 hb hx1 ez sz)
  have hV := Blk.new w1 35 #[.string s, .int .i64 c, .int .i64 e, .bool tn]
  have hx2 := hx1.alloc (.cells #[.string s, .int .i64 c, .int .i64 e, .bool tn] 35)
  replace hb := hb.ext ((Ext.refl w1).alloc (.cells #[.string s, .int .i64 c, .int .i64 e, .bool tn] 35))
  generalize w1.alloc (.cells #[.string s, .int .i64 c, .int .i64 e, .bool tn] 35) = w2 at *
  generalize w1.heap.size = gu at *
  have HX2 := Lib.hid hx2
  have HZ := Lib.hid (fun W (hW : Ext w2 W) => (hb.ext hW).nd)
  have HU := Lib.hid (fun W (hW : Ext w2 W) => (⟨(hV.ext hW).cell 0, (hV.ext hW).cell 1, (hV.ext hW).cell 2, (hV.ext hW).cell 3⟩ : (W.cell? ⟨gu, 0, none⟩ = some (.string s) ∧ W.cell? ⟨gu, 1, none⟩ = some (.int .i64 c) ∧ W.cell? ⟨gu, 2, none⟩ = some (.int .i64 e) ∧ W.cell? ⟨gu, 3, none⟩ = some (.bool tn))))
  clear hb hV hx1 ez sz hx2
  have KS := Lib.hid (fun w' (hw' : Ext w2 w') => (by
    have q1 := HZ.out w' hw'
    exact ⟨⟨q1 0 (by decide), q1 1 (by decide), q1 2 (by decide), q1 3 (by decide), q1 4 (by decide), q1 5 (by decide), q1 6 (by decide), q1 7 (by decide), q1 8 (by decide), q1 9 (by decide)⟩, HU.out w' hw'⟩ : (w'.cell? ⟨z, 0, none⟩ = some (.int .i64 h.kind) ∧ w'.cell? ⟨z, 1, none⟩ = some (.int .u64 (wd h.set 0 : Int)) ∧ w'.cell? ⟨z, 2, none⟩ = some (.int .u64 (wd h.set 1 : Int)) ∧ w'.cell? ⟨z, 3, none⟩ = some (.int .u64 (wd h.set 2 : Int)) ∧ w'.cell? ⟨z, 4, none⟩ = some (.int .u64 (wd h.set 3 : Int)) ∧ w'.cell? ⟨z, 5, none⟩ = some (.slice A0 nl c0) ∧ w'.cell? ⟨z, 6, none⟩ = some (.int .i64 h.num) ∧ w'.cell? ⟨z, 7, none⟩ = some (.int .i64 h.min) ∧ w'.cell? ⟨z, 8, none⟩ = some (.int .i64 h.max) ∧ w'.cell? ⟨z, 9, none⟩ = some (.bool h.bare)) ∧ (w'.cell? ⟨gu, 0, none⟩ = some (.string s) ∧ w'.cell? ⟨gu, 1, none⟩ = some (.int .i64 c) ∧ w'.cell? ⟨gu, 2, none⟩ = some (.int .i64 e) ∧ w'.cell? ⟨gu, 3, none⟩ = some (.bool tn))))
  go_region_held3 (fun w' => (w'.cell? ⟨z, 0, none⟩ = some (.int .i64 h.kind) ∧ w'.cell? ⟨z, 1, none⟩ = some (.int .u64 (wd h.set 0 : Int)) ∧ w'.cell? ⟨z, 2, none⟩ = some (.int .u64 (wd h.set 1 : Int)) ∧ w'.cell? ⟨z, 3, none⟩ = some (.int .u64 (wd h.set 2 : Int)) ∧ w'.cell? ⟨z, 4, none⟩ = some (.int .u64 (wd h.set 3 : Int)) ∧ w'.cell? ⟨z, 5, none⟩ = some (.slice A0 nl c0) ∧ w'.cell? ⟨z, 6, none⟩ = some (.int .i64 h.num) ∧ w'.cell? ⟨z, 7, none⟩ = some (.int .i64 h.min) ∧ w'.cell? ⟨z, 8, none⟩ = some (.int .i64 h.max) ∧ w'.cell? ⟨z, 9, none⟩ = some (.bool h.bare)) ∧ (w'.cell? ⟨gu, 0, none⟩ = some (.string s) ∧ w'.cell? ⟨gu, 1, none⟩ = some (.int .i64 c) ∧ w'.cell? ⟨gu, 2, none⟩ = some (.int .i64 e) ∧ w'.cell? ⟨gu, 3, none⟩ = some (.bool tn)))
    ((first | exact KS.out _ (Ext.refl _).drew | exact KS.out _ hX5 | exact KS.out _ hX4))
    (first
      | (go_at_call 61; refine (HON.out _).mono ?_; rintro e w4 ⟨v4, rfl, ho4, hx4⟩; have hX4 : Ext w2 w4 := (Ext.refl w2).drewr.trans hx4; obtain ⟨g4, c4, cur4, hv4, _⟩ := own_bools ho4 (Nat.succ_pos _); subst hv4)
      | (go_at_call 60; refine (HOV.out _ _ (HX2.out.trans hX4) (RdBl.of_own ho4)).mono ?_; rintro e w5 ⟨v5, rfl, hr5, hx5⟩; have hX5 : Ext w2 w5 := hX4.trans hx5; obtain ⟨A5, c5, hv5, _⟩ := hr5.shape; subst hv5))
  have HX5 := Lib.hid (HX2.out.trans hX5)
  obtain ⟨A6, c6, hv6, hcc⟩ := hr5
  injection hv6 with e1 e2 e3
  obtain ⟨g6, o6, e4, cl⟩ := hcc b (by omega)
  rw [← e1] at e4
  clear e1 e2 e3 hcc
  subst e4
  have q9 : (b : Int) < ((s.size + 1 : Nat) : Int) := by omega
  clear KS HZ HU HON HOV hX4 hX5 hx4 hx5 ho4
  go_wp2
  go_ret
  exact ⟨rfl, HX5.out⟩
theorem info_int9 : (Tryz.prog.info? 3).map (fun i => (i.zero, i.size, i.bytes)) = some (some (.int .i64 0), 1, 8) := by kernel_rfl
/-- The places of a set, rising, as cells. -/
def eC (q : Pl) (k : Nat) : List Value := ((List.range k).filter q).map fun (j : Nat) => Value.int .i64 (j : Int)
theorem eC_zero (q : Pl) : eC q 0 = [] := rfl
theorem eC_in {q : Pl} {k : Nat} (h : q k = true) : eC q (k + 1) = eC q k ++ [.int .i64 k] := by
  unfold eC
  rw [List.range_succ, List.filter_append, List.map_append]
  simp [h]
theorem eC_out {q : Pl} {k : Nat} (h : q k = false) : eC q (k + 1) = eC q k := by
  unfold eC
  rw [List.range_succ, List.filter_append, List.map_append]
  simp [h]
theorem eC_len (q : Pl) (k : Nat) : (eC q k).length ≤ k := by
  unfold eC
  rw [List.length_map]
  exact Nat.le_trans (List.length_filter_le _ _) (by simp)
theorem eC_none {q : Pl} : ∀ k, (∀ i, i < k → q i = false) → eC q k = []
  | 0, _ => rfl
  | k + 1, h => by rw [eC_out (h k (Nat.lt_succ_self k))]; exact eC_none k (fun i hi => h i (by omega))
theorem eC_last {q : Pl} {k : Nat} (hk : q k = true) : ∀ n, k < n → (∀ i, k < i → i < n → q i = false) → eC q n = eC q k ++ [.int .i64 k]
  | 0, h, _ => absurd h (Nat.not_lt_zero _)
  | n + 1, h, hn => by
    by_cases e : k = n
    · subst e; exact eC_in hk
    · rw [eC_out (hn n (by omega) (Nat.lt_succ_self n))]
      exact eC_last hk n (by omega) (fun i h1 h2 => hn i h1 (by omega))
set_option maxRecDepth 100000 in
set_option maxHeartbeats 8000000 in
theorem rends_any (t : Nd) (svn : Value) (a : Nat) (w : World) (hs : s.size ≤ 1000000) (ha : a ≤ s.size) (hf : formB t = true) (hsm : smallN t) (hn : NdOk w t svn) :
    Calls Tryz.prog 59 #[nodeV t.h svn, srV s c e tn, .int .i64 a] w fun r w' => ∃ v, r = .returned v ∧ Own1 w' w.heap.size 3 v (eC (img (tkN (lfR s c e tn) t) (oneP a)) (s.size + 1)) ∧ Ext w w' := by
  have HON : Hid (∀ W, Calls Tryz.prog 61 #[.agg #[.string s, .int .i64 c, .int .i64 e, .bool tn], .int .i64 a] W fun r w' => ∃ v, r = .returned v ∧ OwnBl w' W.heap.size v (s.size + 1) (oneP a) ∧ Ext W w') := Lib.hid (fun W => rOnly_any (s := s) (c := c) (e := e) (t := tn) a W hs ha)
  have HOV : Hid (∀ W v, Ext w W → RdBl W v (s.size + 1) (oneP a) → Calls Tryz.prog 60 #[.agg #[.int .i64 t.h.kind, .int .u64 (wd t.h.set 0 : Int), .int .u64 (wd t.h.set 1 : Int), .int .u64 (wd t.h.set 2 : Int), .int .u64 (wd t.h.set 3 : Int), svn, .int .i64 t.h.num, .int .i64 t.h.min, .int .i64 t.h.max, .bool t.h.bare], .agg #[.string s, .int .i64 c, .int .i64 e, .bool tn], v] W (OverR s W (img (tkN (lfR s c e tn) t) (oneP a)))) := Lib.hid (fun W v hW hr => over_any hs t hsm svn v (oneP a) W hf (NdOk.ext hW _ _ hn) hr (PlN.one ha))
  obtain ⟨A0, c0, hsv⟩ := hn.shape
  generalize tkN (lfR s c e tn) t = R at *
  generalize t.subs.length = nl at *
  subst hsv
  generalize t.h = h at *
  unfold srV OverR at *
  clear hn hf hsm
  obtain ⟨n, hn⟩ : ∃ n, n = s.size + 1 := ⟨_, rfl⟩
  obtain ⟨q, hq⟩ : ∃ q, q = img R (oneP a) := ⟨_, rfl⟩
  rw [← hn, ← hq]
  have HN := Lib.hid hn
  have HQ := Lib.hid hq
  have hnb : n ≤ 1000001 := by omega
  clear hn hq
  go_enter Tryz.func59, Tryz.ntmps59
  go_upto_region 1 with (refine wpl_boxNd rfl _ rfl h _ rfl ?_; intro z w1 hb hx1 ez sz)
  have hV := Blk.new w1 35 #[.string s, .int .i64 c, .int .i64 e, .bool tn]
  have hx2 := hx1.alloc (.cells #[.string s, .int .i64 c, .int .i64 e, .bool tn] 35)
  replace hb := hb.ext ((Ext.refl w1).alloc (.cells #[.string s, .int .i64 c, .int .i64 e, .bool tn] 35))
  generalize w1.alloc (.cells #[.string s, .int .i64 c, .int .i64 e, .bool tn] 35) = w2 at *
  generalize w1.heap.size = gu at *
  have HX2 := Lib.hid hx2
  have HZ := Lib.hid (fun W (hW : Ext w2 W) => (hb.ext hW).nd)
  have HU := Lib.hid (fun W (hW : Ext w2 W) => (⟨(hV.ext hW).cell 0, (hV.ext hW).cell 1, (hV.ext hW).cell 2, (hV.ext hW).cell 3⟩ : (W.cell? ⟨gu, 0, none⟩ = some (.string s) ∧ W.cell? ⟨gu, 1, none⟩ = some (.int .i64 c) ∧ W.cell? ⟨gu, 2, none⟩ = some (.int .i64 e) ∧ W.cell? ⟨gu, 3, none⟩ = some (.bool tn))))
  clear hb hV hx1 ez sz hx2
  have KS := Lib.hid (fun w' (hw' : Ext w2 w') => (by
    have q1 := HZ.out w' hw'
    exact ⟨⟨q1 0 (by decide), q1 1 (by decide), q1 2 (by decide), q1 3 (by decide), q1 4 (by decide), q1 5 (by decide), q1 6 (by decide), q1 7 (by decide), q1 8 (by decide), q1 9 (by decide)⟩, HU.out w' hw'⟩ : (w'.cell? ⟨z, 0, none⟩ = some (.int .i64 h.kind) ∧ w'.cell? ⟨z, 1, none⟩ = some (.int .u64 (wd h.set 0 : Int)) ∧ w'.cell? ⟨z, 2, none⟩ = some (.int .u64 (wd h.set 1 : Int)) ∧ w'.cell? ⟨z, 3, none⟩ = some (.int .u64 (wd h.set 2 : Int)) ∧ w'.cell? ⟨z, 4, none⟩ = some (.int .u64 (wd h.set 3 : Int)) ∧ w'.cell? ⟨z, 5, none⟩ = some (.slice A0 nl c0) ∧ w'.cell? ⟨z, 6, none⟩ = some (.int .i64 h.num) ∧ w'.cell? ⟨z, 7, none⟩ = some (.int .i64 h.min) ∧ w'.cell? ⟨z, 8, none⟩ = some (.int .i64 h.max) ∧ w'.cell? ⟨z, 9, none⟩ = some (.bool h.bare)) ∧ (w'.cell? ⟨gu, 0, none⟩ = some (.string s) ∧ w'.cell? ⟨gu, 1, none⟩ = some (.int .i64 c) ∧ w'.cell? ⟨gu, 2, none⟩ = some (.int .i64 e) ∧ w'.cell? ⟨gu, 3, none⟩ = some (.bool tn))))
  go_upto_region 2 with fail
  go_region_held3 (fun w' => (w'.cell? ⟨z, 0, none⟩ = some (.int .i64 h.kind) ∧ w'.cell? ⟨z, 1, none⟩ = some (.int .u64 (wd h.set 0 : Int)) ∧ w'.cell? ⟨z, 2, none⟩ = some (.int .u64 (wd h.set 1 : Int)) ∧ w'.cell? ⟨z, 3, none⟩ = some (.int .u64 (wd h.set 2 : Int)) ∧ w'.cell? ⟨z, 4, none⟩ = some (.int .u64 (wd h.set 3 : Int)) ∧ w'.cell? ⟨z, 5, none⟩ = some (.slice A0 nl c0) ∧ w'.cell? ⟨z, 6, none⟩ = some (.int .i64 h.num) ∧ w'.cell? ⟨z, 7, none⟩ = some (.int .i64 h.min) ∧ w'.cell? ⟨z, 8, none⟩ = some (.int .i64 h.max) ∧ w'.cell? ⟨z, 9, none⟩ = some (.bool h.bare)) ∧ (w'.cell? ⟨gu, 0, none⟩ = some (.string s) ∧ w'.cell? ⟨gu, 1, none⟩ = some (.int .i64 c) ∧ w'.cell? ⟨gu, 2, none⟩ = some (.int .i64 e) ∧ w'.cell? ⟨gu, 3, none⟩ = some (.bool tn)))
    ((first | exact KS.out _ (Ext.refl _).drew | exact KS.out _ hX5 | exact KS.out _ hX4))
    (first
      | (go_at_call 61; refine (HON.out _).mono ?_; rintro e w4 ⟨v4, rfl, ho4, hx4⟩; have hX4 : Ext w2 w4 := (Ext.refl w2).drewr.trans hx4; obtain ⟨g4, c4, cur4, hv4, _⟩ := own_bools ho4 (Nat.succ_pos _); subst hv4)
      | (go_at_call 60; refine (HOV.out _ _ (HX2.out.trans hX4) (RdBl.of_own ho4)).mono ?_; rintro e w5 ⟨v5, rfl, hr5, hx5⟩; have hX5 : Ext w2 w5 := hX4.trans hx5; obtain ⟨A5, c5, hv5, _⟩ := hr5.shape; subst hv5))
  have HX5 := Lib.hid (HX2.out.trans hX5)
  have HR5 := Lib.hid hr5
  have HWS := Lib.hid HX2.out.size
  have hx55 := Ext.refl w5
  rw [← HQ.out, ← HN.out] at HR5
  have e5 := HN.out
  rw [← e5]
  clear e5
  clear KS HZ HU HON HOV hX4 hX5 hx4 hx5 ho4 hr5
  go_upto_region 4 with fail
  go_loopw [7, 9] (fun lv iv wr => ∃ k : Nat, k ≤ n ∧ iv = .int .i64 k ∧ Own1 wr w5.heap.size 3 lv (eC q k) ∧ Ext w5 wr) (fun _ iv _ => n - (intOf iv).toNat)
  case atStart => exact ⟨0, Nat.zero_le _, rfl, by rw [eC_zero]; exact Own1.nil _ _ _, hx55⟩
  case round =>
    clear hx55
    obtain ⟨k, hk, rfl, ho, hx⟩ := hrel
    obtain ⟨w6, hw6⟩ : ∃ w, w = wr := ⟨_, rfl⟩
    subst hw6
    have HX6 := Lib.hid hx
    have HO6 := Lib.hid ho
    obtain ⟨A6, c6, hv6, _⟩ := ho.shape
    subst hv6
    have HS56 := Lib.hid hx.size
    by_cases hlt : k < n
    · have q9 : (k : Int) < (n : Int) := by omega
      obtain ⟨B5, d5, hb5, hcc⟩ := HR5.out.ext hx
      injection hb5 with e1 e2 e3
      obtain ⟨g5, o5, e4, cl⟩ := hcc k hlt
      rw [← e1] at e4
      clear e1 e2 e3 hcc
      subst e4
      have hle := eC_len q k
      clear ho hx
      by_cases hq : q k = true
      · have HE := Lib.hid (eC_in hq)
        rw [hq] at cl
        clear hq
        have hl2 : (eC q k).length ≤ 1000001 := by omega
        clear hle
        generalize eC q k = xs at *
        go_wp2_with (first
          | (at_builtin; refine wpList_app1 rfl (.tmp 26) (.tmp 28) 90 rfl w5.heap.size 3 (.int .i64 0) 8 Tryz.underlying90 info_int9 rfl _ xs rfl (HO6.out.ext ((Ext.refl w6).alloc _)) w6.heap.size 1 (.int .i64 k) rfl (by rw [(Blk.new w6 _ _).cell]; rfl) rfl (by omega) (by omega) (by have := HS56.out; simp; omega) ?_; intro v7 w7 ho7 hx7; have hx57 : Ext w5 w7 := Below.trans (HX6.out.alloc _) hx7))
        go_roundw
        case rel => exact ⟨k + 1, hlt, by go_num, by rw [HE.out]; exact ho7, hx57⟩
        case measure => simp [intOf]; omega
      · have hq' : q k = false := by simpa using hq
        have HE := Lib.hid (eC_out hq')
        rw [hq'] at cl
        clear hq hq' hle
        go_wp2
        go_roundw
        case rel => exact ⟨k + 1, hlt, by go_num, by rw [HE.out]; exact HO6.out, HX6.out⟩
        case measure => simp [intOf]; omega
    · have q9 : ¬ (k : Int) < (n : Int) := by omega
      obtain rfl : k = n := by omega
      clear ho hx
      go_wp2
      go_ret
      exact ⟨_, rfl, Own1.mono HO6.out (by have := HX5.out.size; omega), HX5.out.trans HX6.out⟩
theorem ret_sp2 {a : Act} {w : World} {fn : Func} {x y : Tmp} {R : Ending → World → Prop} {g : Nat} {p0 p1 : Int} {e : Value} (hr : fn.results = #[.cell x 52, .tmp y]) (hp : a.tmps.getD x undef = .pointer (some ⟨g, 0, none⟩)) (he : a.tmps.getD y undef = e) (hd : a.defers = [])
    (hB : Blk w g 52 #[.int .i64 p0, .int .i64 p1]) (hR : R (.returned (.tuple #[.agg #[.int .i64 p0, .int .i64 p1], e])) w) : bodyPost Tryz.prog fn R .ret a w := by
  refine bodyPost_ret (v := .tuple #[.agg #[.int .i64 p0, .int .i64 p1], e]) ?_ hd hR
  have h1 := run_loadVar_row (P := Tryz.prog) w g 52 52 #[.int .i64 p0, .int .i64 p1] (0, 0) _ hB Tryz.underlying52 rfl info_sp
  have hp' : a.tmps[x]?.getD undef = .pointer (some ⟨g, 0, none⟩) := by simpa using hp
  have he' : a.tmps[y]?.getD undef = e := by simpa using he
  simp [results, hr, hp', he', asAddr, h1]
def fstV2 : Option (Nat × Nat) → Value
  | none => .tuple #[.agg #[.int .i64 0, .int .i64 0], .bool false]
  | some (a, b) => .tuple #[.agg #[.int .i64 a, .int .i64 b], .bool true]
theorem ends_none {R : Rl} {a : Nat} (hR : Mon s.size R) (ha : a ≤ s.size) (h : endR s.size R a = -1) : eC (img R (oneP a)) (s.size + 1) = [] := by
  refine eC_none _ (fun i hi => ?_)
  rcases endR_cases hR ha with ⟨_, h2⟩ | ⟨k, h2, _⟩
  · rw [Bool.eq_false_iff]
    exact fun h3 => h2 i (img_one.1 h3)
  · omega
theorem ends_some {R : Rl} {a k : Nat} (hR : Mon s.size R) (ha : a ≤ s.size) (h : endR s.size R a = (k : Int)) : ∃ xs, eC (img R (oneP a)) (s.size + 1) = xs ++ [.int .i64 k] ∧ xs.length ≤ 1000000000 + s.size := by
  rcases endR_cases hR ha with ⟨h2, _⟩ | ⟨k', h2, h3, _, h5, h6⟩
  · omega
  · have e : k' = k := by omega
    subst e
    refine ⟨eC (img R (oneP a)) k', eC_last (img_one.2 h3) _ (by omega) (fun i h7 h8 => ?_), ?_⟩
    · rw [Bool.eq_false_iff]
      intro h9
      have := h6 i (img_one.1 h9)
      omega
    · have := eC_len (img R (oneP a)) k'
      omega
set_option maxRecDepth 100000 in
set_option maxHeartbeats 8000000 in
theorem rfirst_any (t : Nd) (svn : Value) (i0 : Nat) (w : World) (hs : s.size ≤ 1000000) (hf : formB t = true) (hsm : smallN t) (hn : NdOk w t svn) :
    Calls Tryz.prog 31 #[nodeV t.h svn, srV s c e tn, .int .i64 i0] w fun r w' => r = .returned (fstV2 (findR s.size (tkN (lfR s c e tn) t) i0)) ∧ Ext w w' := by
  have HEN := Lib.hid (fun W (hW : Ext w W) a (ha : a ≤ s.size) => rends_any (s := s) (c := c) (e := e) (tn := tn) t svn a W hs ha hf hsm (NdOk.ext hW _ _ hn))
  have HMN := Lib.hid (tkN_mon (lfR_ok s c e tn) t)
  generalize tkN (lfR s c e tn) t = R at *
  generalize t.h = h at *
  unfold srV at *
  obtain ⟨fo, hfo⟩ : ∃ fo, fo = findR s.size R i0 := ⟨_, rfl⟩
  rw [← hfo]
  have HFO := Lib.hid hfo
  clear hn hf hsm hfo
  go_enter Tryz.func31, Tryz.ntmps31
  go_upto_region 1 with (first
    | (refine wpl_boxNd rfl _ rfl h _ rfl ?_; intro z w1 hb hx1 ez sz)
    | (refine wpl_allocSp rfl rfl ?_; intro g6 w3 hg6 hx3 e6 s6))
  have hV := Blk.new w1 35 #[.string s, .int .i64 c, .int .i64 e, .bool tn]
  have hx2 := hx1.alloc (.cells #[.string s, .int .i64 c, .int .i64 e, .bool tn] 35)
  replace hb := hb.ext ((Ext.refl w1).alloc (.cells #[.string s, .int .i64 c, .int .i64 e, .bool tn] 35))
  generalize w1.alloc (.cells #[.string s, .int .i64 c, .int .i64 e, .bool tn] 35) = w2 at *
  generalize w1.heap.size = gu at *
  have HX3 := Lib.hid (hx2.trans hx3)
  have HZ := Lib.hid (fun W (hW : Ext w3 W) => (hb.ext (hx3.trans hW)).nd)
  have HU := Lib.hid (fun W (hW : Ext w3 W) => (⟨(hV.ext (hx3.trans hW)).cell 0, (hV.ext (hx3.trans hW)).cell 1, (hV.ext (hx3.trans hW)).cell 2, (hV.ext (hx3.trans hW)).cell 3⟩ : (W.cell? ⟨gu, 0, none⟩ = some (.string s) ∧ W.cell? ⟨gu, 1, none⟩ = some (.int .i64 c) ∧ W.cell? ⟨gu, 2, none⟩ = some (.int .i64 e) ∧ W.cell? ⟨gu, 3, none⟩ = some (.bool tn))))
  have HG6 := Lib.hid hg6
  have HE6 : Hid (w.heap.size ≤ g6) := Lib.hid (Nat.le_trans hx2.size e6)
  have hx33 := Ext.refl w3
  clear hb hV hx1 ez sz hx2 hg6 e6 s6 hx3
  go_wp2
  go_loopw [8] (fun iv wr => ∃ i : Nat, iv = .int .i64 i ∧ Ext w3 wr ∧ Hid (findR s.size R i0 = findR s.size R i)) (fun iv _ => s.size + 1 - (intOf iv).toNat)
  case atStart => exact ⟨i0, rfl, hx33, Lib.hid rfl⟩
  case round =>
    clear hx33
    obtain ⟨i, rfl, hx, HFF⟩ := hrel
    obtain ⟨w4, hw4⟩ : ∃ w, w = wr := ⟨_, rfl⟩
    subst hw4
    obtain ⟨v0, v1, v2, v3⟩ := HU.out w4 hx
    have HX := Lib.hid hx
    clear hx
    by_cases hi : i ≤ s.size
    case neg =>
      have q9 : ¬ ((i : Int) ≤ (s.size : Int)) := by omega
      have FIN : Hid (fo = none) := Lib.hid (by rw [HFO.out, HFF.out, find_end (by omega)])
      clear HFO HFF hi
      go_wp2_with (refine wpl_storeSp rfl _ _ rfl rfl g6 (0, 0) (0, 0) rfl rfl (HG6.out.ext HX.out) ?_; intro w5 hg5 hk5)
      exact ret_sp2 rfl rfl rfl rfl hg5 ⟨by rw [FIN.out]; rfl, (HX3.out.trans HX.out).keep1 hk5 HE6.out⟩
    have q9 : (i : Int) ≤ (s.size : Int) := by omega
    have HEN2 := Lib.hid (HEN.out w4 (HX3.out.trans HX.out) i hi)
    rcases endR_cases HMN.out hi with ⟨he, _⟩ | ⟨k, he, _⟩
    · rw [ends_none HMN.out hi he] at HEN2
      have HF2 : Hid (findR s.size R i0 = findR s.size R (i + 1)) := Lib.hid (by rw [HFF.out, find_miss hi he])
      clear he HFF
      go_wp2_with (first
        | (refine wpl_loadNd rfl _ rfl z 0 h _ rfl (HZ.out _ HX.out) ?_)
        | (go_at_call 59; refine HEN2.out.mono ?_; rintro e w5 ⟨v5, rfl, ho5, hx5⟩; obtain ⟨A5, c5, hv5, _⟩ := ho5.shape; subst hv5))
      go_roundw
      case rel => exact ⟨i + 1, by go_num, HX.out.trans hx5, HF2⟩
      case measure => simp [intOf]; omega
    · obtain ⟨xs, hxs, hxl⟩ := ends_some HMN.out hi he
      rw [hxs] at HEN2
      have FIN : Hid (fo = some (i, k)) := Lib.hid (by rw [HFO.out, HFF.out, find_hit hi he])
      clear he HFF hxs HFO
      go_upto_region 6 with (first
        | (refine wpl_loadNd rfl _ rfl z 0 h _ rfl (HZ.out _ HX.out) ?_)
        | (go_at_call 59; refine HEN2.out.mono ?_; rintro e w5 ⟨v5, rfl, ho5, hx5⟩; obtain ⟨A5, c5, hv5, _⟩ := ho5.shape; subst hv5; have hgt : (0 : Int) < (((xs ++ [Value.int .i64 (k : Int)]).length : Nat) : Int) := by simp only [List.length_append, List.length_singleton]; omega))
      rcases ho5.slice with ⟨h0, _⟩ | ⟨g5, cp5, cur5, hv5, _⟩
      · simp at h0
      simp only [Value.slice.injEq] at hv5
      obtain ⟨rfl, _, rfl⟩ := hv5
      have cl := ho5.cells.2 xs.length (.int .i64 k) (by simp)
      have hlen : (xs ++ [Value.int .i64 (k : Int)]).length = xs.length + 1 := by simp
      have HG5 := Lib.hid (HG6.out.ext (HX.out.trans hx5))
      have HX5 := Lib.hid (HX.out.trans hx5)
      clear ho5 hx5 hgt
      try rw [hlen]
      generalize xs.length = m at *
      have q5 : IntKind.i64.wrap (((m + 1 : Nat) : Int) - 1) = (m : Int) := by rw [IntKind.wrap_i64]; omega
      have q6 : (m : Int) < ((m + 1 : Nat) : Int) := by omega
      clear hlen HEN2
      go_wp2_with (refine wpl_storeSp rfl _ _ rfl rfl g6 ((i : Int), (k : Int)) (0, 0) rfl rfl HG5.out ?_; intro w7 hg7 hk7)
      exact ret_sp2 rfl rfl rfl rfl hg7 ⟨by rw [FIN.out]; rfl, (HX3.out.trans HX5.out).keep1 hk7 HE6.out⟩
end

end Go.Proofs.YtgfknlkpdiejgaaGreatDoor
