/- The walk of trawllaw28.OptionBack. Conditions: the options' patterns and the words lie in memory; their lengths; where the error values and the library's variables lie. -/
import Derived.Test.YtkcgbdoplhgbmaaDoorOWs
import Derived.Test.YtkcgbdoplhgbmaaDoorOLv
import Derived.Test.YtkcgbdoplhgbmaaDoorOptC
namespace Go.Proofs.YtkcgbdoplhgbmaaDoor
open Go Go.RowKit

theorem byB_map_inj : ∀ {a b : List ByteArray}, a.map byB = b.map byB → a = b
  | [], [], _ => rfl
  | [], _ :: _, h => by cases h
  | _ :: _, [], h => by cases h
  | x :: a, y :: b, h => by
    simp only [List.map_cons, List.cons.injEq] at h
    rw [byB_inj h.1, byB_map_inj h.2]
theorem own_isS {w : World} {B : Nat} {e : TypeId} {v : Value} {xs : List Value} (h : Own1 w B e v xs) : IsS v := by
  obtain ⟨A, c, hv, _⟩ := h.shape
  exact ⟨A, _, c, hv⟩
theorem sameH_self (o : Ops) : sameH o o = true := by simp [sameH]
theorem FErr.nil {w : World} {A : Nat → Addr} {l : List (Bool × Int)} {v : Value} (h : FErr w A 0 l v) : v = .nilIface := by
  rcases h with ⟨_, h⟩ | ⟨h, _⟩
  · exact h
  · exact absurd rfl h
theorem FErr.iface {w : World} {A : Nat → Addr} {n : Int} {l : List (Bool × Int)} {v : Value} (h : FErr w A n l v) (hn : n ≠ 0) : ∃ t x, v = .iface t x := by
  rcases h with ⟨h, _⟩ | ⟨_, a, h1, _⟩
  · exact absurd h hn
  · exact h1.isIf ⟨_, _, rfl⟩
theorem fits_op {o : Ops} (h : okO o) : (-9223372036854775808 ≤ o.most ∧ o.most ≤ 9223372036854775807) ∧ (-9223372036854775808 ≤ o.fl ∧ o.fl ≤ 9223372036854775807) ∧ (-9223372036854775808 ≤ o.md ∧ o.md ≤ 9223372036854775807) := by
  obtain ⟨⟨h1, h2⟩, ⟨h3, h4⟩, ⟨h5, h6⟩, _⟩ := h
  exact ⟨⟨by omega, by omega⟩, ⟨by omega, by omega⟩, ⟨by omega, by omega⟩⟩

set_option maxRecDepth 100000 in
set_option maxHeartbeats 16000000 in
theorem optionBack_walk (o : Ops) (pv uv : Value) (ws us : List ByteArray) (w : World) (A : Nat → Addr) (m : Int) (hW : RdT w pv ws) (hp : ws.map byB = o.pats) (hU : RdT w uv us)
    (hl : ws.length ≤ 1000000000000000 ∧ ∀ x ∈ ws, x.size ≤ 1000000000000000) (hul : us.length ≤ 1000000000000000 ∧ ∀ x ∈ us, x.size ≤ 1000000000000000)
    (hf : -9223372036854775808 ≤ o.fl ∧ o.fl ≤ 9223372036854775807) (hd : -9223372036854775808 ≤ o.md ∧ o.md ≤ 9223372036854775807) (hm : -9223372036854775808 ≤ o.most ∧ o.most ≤ 9223372036854775807)
    (hE : ErrsAt w A) (hV : LibV w) (hM : w.cell? ⟨22, 0, none⟩ = some (.int .i64 m)) :
    Calls Tryd.prog 12 #[opV o pv, uv] w fun e w' => e = .returned (.bool true) ∧ Ext w w' := by
  have HW := Lib.hid hW
  have HU := Lib.hid hU
  have HP := Lib.hid hp
  have HL := Lib.hid hl
  have HUL := Lib.hid hul
  have HF := Lib.hid hf
  have HD := Lib.hid hd
  have HM := Lib.hid hm
  have HE := Lib.hid hE
  have HV := Lib.hid hV
  have HMX := Lib.hid hM
  obtain ⟨AA, c, rfl, hlc, _⟩ := hW
  obtain ⟨BB, d, rfl, hld, _⟩ := hU
  clear hp hl hul hf hd hm hE hV hM
  go_enter Tryd.func12, Tryd.ntmps12
  go_upto_region 1 with (refine wpl_boxOp rfl _ rfl o (.slice AA ws.length c) rfl ?_; intro g w1 hg hx1 hg0 hgl)
  have HX := Lib.hid hx1
  have c8 : w1.cell? ⟨g, 8, none⟩ = some (.slice AA ws.length c) := hg.cell 8
  have HG := Lib.hid hg
  have HLV := Lib.hid (lives28_any w1 A m (HE.out.ext hx1) (hx1.cell HMX.out) (hx1.cell HV.out.et))
  clear hg hx1
  go_upto_region 3 with (go_at_call 28; refine HLV.out.mono ?_; rintro e w2 ⟨rfl, hx2⟩)
  replace c8 := hx2.cell c8
  have HX2 := Lib.hid (HX.out.trans hx2)
  have HG2 := Lib.hid (HG.out.ext hx2)
  clear HLV HG hx2
  have HMU := Lib.hid (much_any ws (.slice AA ws.length c) w2 (HW.out.ext HX2.out) HL.out.1 HL.out.2)
  have HMV := Lib.hid (much_any us (.slice BB us.length d) w2 (HU.out.ext HX2.out) HUL.out.1 HUL.out.2)
  by_cases hmu : 50000 < totP (ws.map byB)
  · rw [decide_eq_true hmu] at HMU
    clear hmu HMV
    go_wp2_with (go_at_call 29; refine HMU.out.mono ?_; rintro e w3 ⟨rfl, rfl⟩)
    go_ret
    exact ⟨rfl, HX2.out⟩
  by_cases hmv : 50000 < totP (us.map byB)
  · rw [decide_eq_false hmu] at HMU
    rw [decide_eq_true hmv] at HMV
    clear hmu hmv
    go_wp2_with (first
      | (go_at_call 29; with_reducible refine HMU.out.mono ?_; rintro e w3 ⟨rfl, rfl⟩)
      | (go_at_call 29; with_reducible refine HMV.out.mono ?_; rintro e w3 ⟨rfl, rfl⟩))
    go_ret
    exact ⟨rfl, HX2.out⟩
  rw [decide_eq_false hmu] at HMU
  rw [decide_eq_false hmv] at HMV
  have HT : Hid (totP (ws.map byB) ≤ 50000) := Lib.hid (by omega)
  have HTU : Hid (totP (us.map byB) ≤ 50000) := Lib.hid (by omega)
  clear hmu hmv
  go_upto_region 5 with (first
    | (go_at_call 29; with_reducible refine HMU.out.mono ?_; rintro e w3 ⟨rfl, rfl⟩)
    | (go_at_call 29; with_reducible refine HMV.out.mono ?_; rintro e w3 ⟨rfl, rfl⟩))
  clear HMU HMV
  have HOW := Lib.hid (owords_any o (.slice AA ws.length c) ws A w2 (HW.out.ext HX2.out) HP.out (Nat.le_trans HT.out (by decide)) HM.out HF.out HD.out (HE.out.ext HX2.out) (HV.out.ext HX2.out))
  go_upto_region 6 with (first
    | (refine wpl_loadOp rfl _ rfl g 0 o (.slice AA ws.length c) rfl (Blk.opAt HG2.out) ?_)
    | (go_at_call 53; refine HOW.out.mono ?_; rintro e w4 ⟨lv4, ls4, ev4, rfl, how4, hls4, hx4, hf4⟩))
  have HO4 := Lib.hid how4
  have HX4 := Lib.hid (HX2.out.trans hx4)
  have HG4 := Lib.hid (HG2.out.ext hx4)
  have c84 := hx4.cell c8
  obtain ⟨A4, c4, hs4, hlc4⟩ := how4.shape
  rw [List.length_map] at hs4 hlc4
  subst hs4
  clear HOW c8 HG2 how4 hx4
  go_cut [27] (fun v wx => v = .bool (decide (okO o)) ∧ w4 = wx)
  case first =>
    by_cases hok : okO o
    · rw [if_pos hok] at hf4
      have e4 := hf4.nil
      subst e4
      clear hf4 hls4
      go_wp2
      go_meet
      case rel => exact ⟨by rw [decide_eq_true hok], rfl⟩
    · rw [if_neg hok] at hf4
      obtain ⟨te, xe, rfl⟩ := hf4.iface (by decide)
      clear hf4 hls4
      go_wp2
      go_meet
      case rel => exact ⟨by rw [decide_eq_false hok], rfl⟩
  obtain ⟨rfl, rfl⟩ := hcut
  go_step
  go_cut [4, 5, 6, 7, 8, 27] (fun _ _ _ _ _ _ wx => Ext w4 wx)
  case first =>
    by_cases hok : okO o
    · rw [if_pos hok] at hls4 hf4
      rw [decide_eq_true hok]
      have e4 := hf4.nil
      subst e4
      have HPR := Lib.hid (oparse_any w4 _ ls4 A m (RdT.of_own HO4.out) (by rw [hls4]; have := words_tot hok; have := HT.out; rw [HP.out] at this; omega) (HE.out.ext HX4.out) (HX4.out.cell HMX.out))
      rw [hls4, back o hok] at HPR
      clear hls4 hf4 hok
      go_upto_region 8 with (first
        | (go_at_call 30; refine HPR.out.mono ?_; rintro e w5 ⟨_, ev5, rfl, hx5, ⟨pv5, ps5, rfl, how5, hps5⟩, hf5⟩)
        | (refine wpl_allocOp rfl rfl ?_; intro z w6 hz hx6 hz0 hzl)
        | (refine wpl_storeOp rfl _ _ rfl rfl z o zeroO pv5 (.slice none 0 0) rfl rfl (own_isS how5) hz ?_; intro w7 hz7 hk7))
      have e5 : ev5 = .nilIface := hf5.nil
      subst e5
      have hps : ws = ps5 := byB_map_inj (HP.out.trans hps5.symm)
      subst hps
      have hx57 : Ext w5 w7 := hx6.keeps hk7 (fun _ h1 h2 => by omega)
      have HX7 := Lib.hid (hx5.trans hx57)
      have HS := Lib.hid (fun W (hW : Ext w7 W) => same28_any o o ws ws (.slice AA ws.length c) pv5 W (HW.out.ext ((HX4.out.trans HX7.out).trans hW)) (RdT.of_own ((how5.ext hx57).ext hW)) (by have := tot_len (ws.map byB); rw [List.length_map] at this; have := HT.out; omega))
      simp only [sameH_self, decide_true, Bool.and_self] at HS
      have HZ7 := Lib.hid hz7
      have HG7 := Lib.hid (HG4.out.ext HX7.out)
      have c87 := HX7.out.cell c84
      clear HPR hx5 how5 hps5 hf5 hz hx6 hk7 hx57 hz7 c84
      go_wp2_with (first
        | (refine wpList_unguard rfl ?_; refine wpl_loadOp rfl _ rfl g 0 o (.slice AA ws.length c) rfl (Blk.opAt HG7.out) ?_)
        | (refine wpList_unguard rfl ?_; refine wpl_loadOp rfl _ rfl z 0 o pv5 rfl (Blk.opAt HZ7.out) ?_)
        | (go_at_call 33; refine (HS.out _ (Ext.refl _)).mono ?_; rintro e w8 ⟨rfl, hx8⟩))
      go_meet
      case rel => exact HX7.out.trans hx8
    · rw [if_neg hok] at hls4 hf4
      rw [decide_eq_false hok]
      have hn : ls4 = [] := by cases ls4 with | nil => rfl | cons x r => cases hls4
      subst hn
      obtain ⟨te, xe, rfl⟩ := hf4.iface (by decide)
      have HNU := Lib.hid (num_ferr A 19 [] _ w4 hf4 (HE.out.ext HX4.out))
      rw [show codeP 19 = 19 from rfl] at HNU
      clear hls4 hf4 hok
      go_wp2_with (go_at_call 18; refine HNU.out.mono ?_; rintro e w5 ⟨rfl, hx5⟩)
      go_meet
      case rel => exact hx5
  obtain ⟨w8, hw8⟩ : ∃ w, w = wc := ⟨_, rfl⟩
  subst hw8
  have HX8 := Lib.hid (HX4.out.trans hcut)
  clear hcut HO4 c84 HG4
  have HPR := Lib.hid (oparse_any w8 _ us A m (HU.out.ext HX8.out) (Nat.le_trans HTU.out (by decide)) (HE.out.ext HX8.out) (HX8.out.cell HMX.out))
  have hinv := parsed_inv (us.map byB)
  have htot := @parsed_tot (us.map byB)
  generalize parsedP (us.map byB) = R at *
  rcases R with k | q
  · have hk : (k : Int) ≤ (us.length : Int) := by have : k ≤ us.length := by simpa using hinv
                                                  omega
    have hk0 : (0 : Int) ≤ (k : Int) := by omega
    clear hinv htot
    go_upto_region 13 with (first
      | (go_at_call 30; refine HPR.out.mono ?_; rintro e w9 ⟨_, ev9, rfl, hx9, ⟨pv9, ps9, rfl, how9, hps9⟩, hf9⟩)
      | (refine wpl_allocOp rfl rfl ?_; intro z w10 hz hx10 hz0 hzl)
      | (refine wpl_storeOp rfl _ _ rfl rfl z zeroO zeroO pv9 (.slice none 0 0) rfl rfl (own_isS how9) hz ?_; intro w11 hz11 hk11))
    have hx911 : Ext w9 w11 := hx10.keeps hk11 (fun _ h1 h2 => by omega)
    have HX11 := Lib.hid (HX8.out.trans (hx9.trans hx911))
    have hf11 : FErr w11 A 19 [(true, (k : Int))] ev9 := hf9.ext hx911
    obtain ⟨te, xe, rfl⟩ := hf11.iface (by decide)
    have HNU := Lib.hid (fun W (hW : Ext w11 W) => num_ferr A 19 _ _ W (hf11.ext hW) (HE.out.ext (HX11.out.trans hW)))
    have HNI := Lib.hid (fun W (hW : Ext w11 W) => numIndex_any A 19 _ _ W (hf11.ext hW) ((HX11.out.trans hW).cell HV.out.et))
    rw [show codeP 19 = 19 from rfl] at HNU
    rw [show (plF true 19 [(true, (k : Int))]).getD (-1) = (k : Int) from rfl] at HNI
    clear HPR hx9 how9 hps9 hf9 hz hx10 hk11 hx911 hz11 hf11
    go_wp2_with (first
      | (go_at_call 18; refine (HNU.out _ (Ext.refl _)).mono ?_; rintro e w12 ⟨rfl, hx12⟩)
      | (go_at_call 32; with_reducible refine (HNI.out _ hx12).mono ?_; rintro e w13 ⟨rfl, hx13⟩)
      | (go_at_call 32; with_reducible refine (HNI.out _ (hx12.trans hx13)).mono ?_; rintro e w14 ⟨rfl, hx14⟩))
    go_ret
    exact ⟨rfl, HX11.out.trans ((hx12.trans hx13).trans hx14)⟩
  · have hq : okO q := hinv
    have hqt : totP q.pats ≤ 50000 := Nat.le_trans (htot rfl) HTU.out
    clear hinv htot
    go_upto_region 13 with (first
      | (go_at_call 30; refine HPR.out.mono ?_; rintro e w9 ⟨_, ev9, rfl, hx9, ⟨pv9, ps9, rfl, how9, hps9⟩, hf9⟩)
      | (refine wpl_allocOp rfl rfl ?_; intro z w10 hz hx10 hz0 hzl)
      | (refine wpl_storeOp rfl _ _ rfl rfl z q zeroO pv9 (.slice none 0 0) rfl rfl (own_isS how9) hz ?_; intro w11 hz11 hk11))
    have hx911 : Ext w9 w11 := hx10.keeps hk11 (fun _ h1 h2 => by omega)
    have HX11 := Lib.hid (HX8.out.trans (hx9.trans hx911))
    have e9 : ev9 = .nilIface := hf9.nil
    subst e9
    have HO11 := Lib.hid (how9.ext hx911)
    have HZ11 := Lib.hid hz11
    have hps : ps9.map byB = q.pats := hps9
    have HPS := Lib.hid hps
    obtain ⟨g1, g2, g3⟩ := fits_op hq
    have HOW := Lib.hid (owords_any q pv9 ps9 A w11 (RdT.of_own HO11.out) hps (by rw [hps]; omega) g1 g2 g3 (HE.out.ext HX11.out) (HV.out.ext HX11.out))
    have HQ := Lib.hid hq
    have HQT := Lib.hid hqt
    clear HPR hx9 how9 hps9 hf9 hz hx10 hk11 hx911 hz11 hps g1 g2 g3 hq hqt
    go_upto_region 16 with (first
      | (refine wpl_loadOp rfl _ rfl z 0 q pv9 rfl (Blk.opAt HZ11.out) ?_)
      | (go_at_call 53; refine HOW.out.mono ?_; rintro e w12 ⟨lv12, ls12, ev12, rfl, how12, hls12, hx12, hf12⟩))
    rw [if_pos HQ.out] at hls12 hf12
    have e12 := hf12.nil
    subst e12
    have HX12 := Lib.hid (HX11.out.trans hx12)
    have HO12 := Lib.hid (HO11.out.ext hx12)
    have HZ12 := Lib.hid (HZ11.out.ext hx12)
    have HPR := Lib.hid (oparse_any w12 _ ls12 A m (RdT.of_own how12) (by rw [hls12]; have := words_tot HQ.out; have := HQT.out; omega) (HE.out.ext HX12.out) (HX12.out.cell HMX.out))
    rw [hls12, back q HQ.out] at HPR
    clear hls12 hf12 how12 hx12 HOW
    go_upto_region 17 with (first
      | (go_at_call 30; refine HPR.out.mono ?_; rintro e w13 ⟨_, ev13, rfl, hx13, ⟨pv13, ps13, rfl, how13, hps13⟩, hf13⟩)
      | (refine wpl_allocOp rfl rfl ?_; intro y w14 hy hx14 hy0 hyl)
      | (refine wpl_storeOp rfl _ _ rfl rfl y q zeroO pv13 (.slice none 0 0) rfl rfl (own_isS how13) hy ?_; intro w15 hy15 hk15))
    have e13 : ev13 = .nilIface := hf13.nil
    subst e13
    have hps : ps9 = ps13 := byB_map_inj (HPS.out.trans hps13.symm)
    subst hps
    have hx1315 : Ext w13 w15 := hx14.keeps hk15 (fun _ h1 h2 => by omega)
    have HX15 := Lib.hid (hx13.trans hx1315)
    have HZ15 := Lib.hid (HZ12.out.ext HX15.out)
    have HY15 := Lib.hid hy15
    have HS := Lib.hid (same28_any q q ps9 ps9 pv9 pv13 w15 (RdT.of_own (HO12.out.ext HX15.out)) (RdT.of_own (how13.ext hx1315)) (by have h1 := tot_len (ps9.map byB); have h2 := HQT.out; rw [← HPS.out] at h2; rw [List.length_map] at h1; omega))
    simp only [sameH_self, decide_true, Bool.and_self] at HS
    clear HPR hx13 how13 hps13 hf13 hy hx14 hk15 hx1315 hy15
    go_wp2_with (first
      | (refine wpList_unguard rfl ?_; refine wpl_loadOp rfl _ rfl z 0 q pv9 rfl (Blk.opAt HZ15.out) ?_)
      | (refine wpList_unguard rfl ?_; refine wpl_loadOp rfl _ rfl y 0 q pv13 rfl (Blk.opAt HY15.out) ?_)
      | (go_at_call 33; refine HS.out.mono ?_; rintro e w16 ⟨rfl, hx16⟩))
    go_ret
    exact ⟨rfl, HX12.out.trans (HX15.out.trans hx16)⟩

end Go.Proofs.YtkcgbdoplhgbmaaDoor
