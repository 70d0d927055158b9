/- RankCompares and RankOrders as walks. Condition: the parses lie in memory; the error values lie where they lie. RankChecks as a walk. Condition: tree and parse lie in memory; the error values lie where they lie. -/
import Derived.Test.YthddlhpndaffjaaDoorZRankChecksAC
import Derived.Test.YthddlhpndaffjaaDoorPsO
import Derived.Test.YthddlhpndaffjaaDoorZRankChecksAH
import Derived.Test.YthddlhpndaffjaaDoorZRankChecksAB
namespace Go.Proofs.YthddlhpndaffjaaDoor
open Go Go.RowKit

set_option maxRecDepth 100000 in
set_option maxHeartbeats 4000000 in
theorem rankCompares_walk (a b : Ps) (sva svb : Value) (w : World) (A : Nat → Addr) (ha : PsOk w a sva) (hb : PsOk w b svb) (hE : Err3 w A) :
    Calls Tryd.prog 11 #[psV a.d sva, psV b.d svb] w fun r w' => r = .returned (.bool true) ∧ Ext w w' := by
  have HL := Lib.hid (fun W (hW : Ext w W) => rlives_any W A (hE.ext hW))
  have HFa := Lib.hid (fun W (hW : Ext w W) => pfew_any a sva 3000 W (ha.ext hW) (by omega) (by omega))
  have HFb := Lib.hid (fun W (hW : Ext w W) => pfew_any b svb 3000 W (hb.ext hW) (by omega) (by omega))
  have HC := Lib.hid (fun W (hW : Ext w W) (h : 0 ≤ pleftN a 3000) => compare_any a sva b svb W (ha.ext hW) (hb.ext hW) (smallP_left a 3000 (by omega) h))
  have HD := Lib.hid (fun W (hW : Ext w W) (h : 0 ≤ pleftN a 3000) => rcompare_any a sva b svb W (ha.ext hW) (hb.ext hW) (smallP_left a 3000 (by omega) h))
  have HS := Lib.hid (fun W (hW : Ext w W) (h : 0 ≤ pleftN a 3000) => sameParse_any a sva b svb W (ha.ext hW) (hb.ext hW) (smallP_left a 3000 (by omega) h))
  have HE := Lib.hid (cmpN_same a b)
  clear ha hb hE
  generalize pleftN a 3000 = la at *
  generalize pleftN b 3000 = lb at *
  generalize cmpN a b = c at *
  generalize samePs a b = sp at *
  generalize a.d = da at *
  generalize b.d = db at *
  go_enter Tryd.func11, Tryd.ntmps11
  go_upto_region 1 with (first
    | (refine wpl_boxPs rfl _ rfl da _ rfl ?_; intro x w1 hb hx1 ex sx)
    | (refine wpl_boxPs rfl _ rfl db _ rfl ?_; intro y w2 hc hx2 ey sy))
  replace hb := hb.ext hx2
  replace hx1 := hx1.trans hx2
  clear hx2 ex sx ey sy
  by_cases h1 : 0 ≤ la
  case neg =>
    rw [decide_eq_false h1] at HFa
    clear HFb HC HD HS h1
    go_wp2_with (first
      | (go_at_call 36; refine (HL.out _ hx1).mono ?_; rintro e w3 ⟨rfl, hx3⟩)
      | (refine wpl_loadPs rfl _ rfl x 0 da _ rfl (hb.ext hx3).ps ?_)
      | (go_at_call 37; refine (HFa.out _ (hx1.trans hx3)).mono ?_; rintro e w4 ⟨rfl, hx4⟩))
    go_ret
    exact ⟨rfl, (hx1.trans hx3).trans hx4⟩
  rw [decide_eq_true h1] at HFa
  by_cases h2 : 0 ≤ lb
  case neg =>
    rw [decide_eq_false h2] at HFb
    clear HC HD HS h1 h2
    go_wp2_with (first
      | (go_at_call 36; refine (HL.out _ hx1).mono ?_; rintro e w3 ⟨rfl, hx3⟩)
      | (refine wpl_loadPs rfl _ rfl x 0 da _ rfl (hb.ext hx3).ps ?_)
      | (go_at_call 37; ((with_reducible refine (HFa.out _ (hx1.trans hx3)).mono ?_); rintro e w4 ⟨rfl, hx4⟩))
      | (refine wpl_loadPsG _ rfl rfl y 0 db _ rfl ((hc.ext hx3).ext hx4).ps ?_)
      | (go_at_call 37; ((with_reducible refine (HFb.out _ ((hx1.trans hx3).trans hx4)).mono ?_); rintro e w5 ⟨rfl, hx5⟩)))
    go_ret
    exact ⟨rfl, ((hx1.trans hx3).trans hx4).trans hx5⟩
  rw [decide_eq_true h2] at HFb
  have HC2 := Lib.hid (fun W hW => HC.out W hW h1)
  have HD2 := Lib.hid (fun W hW => HD.out W hW h1)
  have HS2 := Lib.hid (fun W hW => HS.out W hW h1)
  clear HC HD HS h1 h2
  go_upto_region 5 with (first
    | (go_at_call 36; refine (HL.out _ hx1).mono ?_; rintro e w3 ⟨rfl, hx3⟩)
    | (refine wpl_loadPs rfl _ rfl x 0 da _ rfl (hb.ext hx3).ps ?_)
    | (go_at_call 37; ((with_reducible refine (HFa.out _ (hx1.trans hx3)).mono ?_); rintro e w4 ⟨rfl, hx4⟩))
    | (refine wpl_loadPsG _ rfl rfl y 0 db _ rfl ((hc.ext hx3).ext hx4).ps ?_)
    | (go_at_call 37; ((with_reducible refine (HFb.out _ ((hx1.trans hx3).trans hx4)).mono ?_); rintro e w5 ⟨rfl, hx5⟩)))
  have HXA := Lib.hid (((hb.ext hx3).ext hx4).ext hx5).ps
  have HYA := Lib.hid (((hc.ext hx3).ext hx4).ext hx5).ps
  have hx := ((hx1.trans hx3).trans hx4).trans hx5
  clear hb hc hx1 hx3 hx4 hx5 HL HFa HFb
  have e1 : (c == c) = true := by simp
  have e2 : (c == 0) = sp := by rw [HE.out, Bool.eq_iff_iff]; simp
  clear HE
  refine wp_region_plus (by kernel_rfl) (by kernel_rfl) ?_
  repeat (first
    | (go_big_quiet_want; refine quiet_loadPs _ rfl x 0 da _ rfl HXA.out ?_; simp only [Act.put, List.setIfInBounds_toArray, List.set_cons_succ, List.set_cons_zero]; go_big_quiet_on)
    | (go_big_quiet_want; refine quiet_loadPs _ rfl y 0 db _ rfl HYA.out ?_; simp only [Act.put, List.setIfInBounds_toArray, List.set_cons_succ, List.set_cons_zero]; go_big_quiet_on)
    | (go_big_quiet_step ((first
      | (go_at_call 44; exact Calls.plus_of (HC2.out _ (hx.trans (plus_ext _ _))))
      | (go_at_call 45; exact Calls.plus_of (HD2.out _ (hx.trans (plus_ext _ _))))
      | (go_at_call 46; exact Calls.plus_of (HS2.out _ (hx.trans (plus_ext _ _))))))))
  refine wpQuiet_nil ?_
  intro v
  go_wp2
  go_ret
  exact ⟨by cases sp <;> rfl, hx.trans (plus_ext _ v)⟩

end Go.Proofs.YthddlhpndaffjaaDoor

namespace Go.Proofs.YthddlhpndaffjaaDoor
open Go Go.RowKit

theorem RetSp.uni {w w' : World} {ok : Bool} {l : List (Int × Int)} {r : Ending} (h : RetSp w ok l r w') :
    ∃ A cp, r = .returned (.tuple #[.slice A (if ok then l else []).length cp, .bool ok]) ∧ OwnSp w' w.heap.size (.slice A (if ok then l else []).length cp) (if ok then l else []) ∧ Ext w w' := by
  rcases h with ⟨rfl, rfl, hx⟩ | ⟨rfl, g, cp, rfl, hO, hx⟩
  · exact ⟨none, 0, rfl, OwnR.nil _ _ _ _, hx⟩
  · exact ⟨_, cp, rfl, hO, hx⟩

theorem info_sr : (Tryd.prog.info? 65).map (·.size) = some 4 := by kernel_rfl
/-- The load of a whole reference's scene in a drawn region that only grows. -/
theorem quiet_loadSr {o : Oper} {a : Act} {w0 : World} {K : Act → Prop} (x : Operand) (ho : o.op = .load 65 x) (g : Nat) (s : ByteArray) (c e : Int) (t : Bool) (hx : a.eval x = .pointer (some ⟨g, 0, none⟩)) (hN : Blk w0 g 65 #[.string s, .int .i64 c, .int .i64 e, .bool t])
    (hK : K (a.put o.dst (.agg #[.string s, .int .i64 c, .int .i64 e, .bool t]))) : o.quiet Tryd.prog a (fun w' => ∃ x : Ex w0, w' = plus w0 x) K := by
  refine ⟨_, fun w' hw' => ?_, hK⟩
  obtain ⟨y, rfl⟩ := hw'
  have hr := run_loadAt_mid (P := Tryd.prog) (plus w0 y) g 0 65 [.string s, .int .i64 c, .int .i64 e, .bool t] _ (fun j v hv => by
    rw [Nat.zero_add, (hN.ext (plus_ext w0 y)).cell]
    simpa using hv) Tryd.underlying65 rfl info_sr
  unfold Oper.quietAt execOp
  simp only [ho, hx, Sem.run_bind, Sem.run_pure, Result.andThen_ok, hr]
  exact ⟨rfl, rfl⟩

theorem Ext.keepF {w w' w'' : World} {F : Nat → Prop} (h : Ext w w') (hk : Keeps F w' w'') (hF : ∀ i, F i → w.heap.size ≤ i) : Ext w w'' :=
  ⟨hk.os.trans h.os, hk.tape.trans h.tape, hk.output.trans h.output, Nat.le_trans (Below.size h) hk.size, fun k hk' => (hk.block k (Nat.lt_of_lt_of_le hk' (Below.size h)) (fun hf => by have := hF k hf; omega)).trans (Below.block h k hk')⟩

set_option maxRecDepth 100000 in
set_option maxHeartbeats 8000000 in
theorem rankChecks_walk (n : Nd) (svn : Value) (s : ByteArray) (c e : Int) (p : Ps) (svp : Value) (G : Int) (w : World) (A : Nat → Addr) (hn : NdCap w n svn) (hp : PsOk w p svp) (hE : Err3 w A) :
    Calls Tryd.prog 10 #[nodeV n.h svn, .agg #[.string s, .int .i64 c, .int .i64 e], psV p.d svp, .int .i64 G] w fun r w' => r = .returned (.bool true) ∧ Ext w w' := by
  have HL := Lib.hid (fun W (hW : Ext w W) => rlives_any W A (hE.ext hW))
  have HFa := Lib.hid (fun W (hW : Ext w W) => few_any n svn 2500 W (hn.ok.ext hW) (by omega) (by omega))
  have HFb := Lib.hid (fun W (hW : Ext w W) => pfew_any p svp 3000 W (hp.ext hW) (by omega) (by omega))
  have HN := Lib.hid (fun W (hs : s.size ≤ 500) => new_any s c e W (by omega))
  have HCa := Lib.hid (fun (h1 : 0 ≤ leftN n 2500) (h2 : 0 ≤ pleftN p 3000) (h3 : s.size ≤ 500) W x (hW : Ext w W) (hS : IsScene W x s (mkAt s c e s.size)) =>
    rankCheck_any (c := c) (e := e) n svn p svp W A 2500 (hn.ok.ext hW) (hp.ext hW) (hE.ext hW) (by omega) h1 (smallP_left p 3000 (by omega) h2) hS (by omega))
  have HCb := Lib.hid (fun (h1 : 0 ≤ leftN n 2500) (h2 : 0 ≤ pleftN p 3000) (h3 : s.size ≤ 500) W (hW : Ext w W) =>
    rCheck_any (s := s) (c := c) (e := e) n svn p svp W 2500 (hn.ext hW) (hp.ext hW) (by omega) h1 (smallP_left p 3000 (by omega) h2) (by omega))
  have HSa := Lib.hid (fun (h1 : 0 ≤ leftN n 2500) (h2 : 0 ≤ pleftN p 3000) (h3 : s.size ≤ 500) W x (hW : Ext w W) (hS : IsScene W x s (mkAt s c e s.size)) =>
    (spansR_any (c := c) (e := e) n svn p svp G W A 2500 (hn.ok.ext hW) (hp.ext hW) (hE.ext hW) (by omega) h1 (smallP_left p 3000 (by omega) h2) hS (by omega)).mono fun _ _ => RetSp.uni)
  have HSb := Lib.hid (fun (h1 : 0 ≤ leftN n 2500) (h2 : 0 ≤ pleftN p 3000) (h3 : s.size ≤ 500) W (hW : Ext w W) =>
    (rSpans_any (s := s) (c := c) (e := e) n svn p svp G W 2500 (hn.ext hW) (hp.ext hW) (by omega) h1 (smallP_left p 3000 (by omega) h2) (by omega)).mono fun _ _ => RetSp.uni)
  have hll : (if okSp s c e n p G then spansN n p G.toNat else []).length ≤ 1000 := by
    split
    · rename_i h
      unfold okSp at h
      simp only [Bool.and_eq_true, decide_eq_true_eq] at h
      rw [spansN_len]
      omega
    · simp
  have HLL := Lib.hid hll
  clear hn hp hE hll
  generalize checkN s c e n p = ck at *
  generalize (if okSp s c e n p G then spansN n p G.toNat else []) = L at *
  generalize okSp s c e n p G = ok at *
  generalize leftN n 2500 = la at *
  generalize pleftN p 3000 = lb at *
  generalize n.h = h at *
  generalize p.d = d at *
  unfold srV at *
  go_enter Tryd.func10, Tryd.ntmps10
  go_upto_region 1 with (first
    | (refine wpl_boxNd rfl _ rfl h _ rfl ?_; intro z w1 hb hx1 ex sx)
    | (refine wpl_boxPs rfl _ rfl d _ rfl ?_; intro y w2 hc hx2 ey sy))
  have K3 := (Blk.new w1 57 #[.string s, .int .i64 c, .int .i64 e]).ext hx2
  have hx12 := (hx1.alloc (.cells #[.string s, .int .i64 c, .int .i64 e] 57)).trans hx2
  replace hb := (hb.ext ((Ext.refl w1).alloc (.cells #[.string s, .int .i64 c, .int .i64 e] 57))).ext hx2
  generalize w1.heap.size = u at *
  clear hx1 hx2 ex sx ey sy
  have HK := Lib.hid (fun W (hW : Ext w2 W) => (⟨(K3.ext hW).cell 0, (K3.ext hW).cell 1, (K3.ext hW).cell 2⟩ : W.cell? ⟨u, 0, none⟩ = some (.string s) ∧ W.cell? ⟨u, 1, none⟩ = some (.int .i64 c) ∧ W.cell? ⟨u, 2, none⟩ = some (.int .i64 e)))
  have HA := Lib.hid (fun W (hW : Ext w2 W) => (hb.ext hW).nd)
  have HB := Lib.hid (fun W (hW : Ext w2 W) => (hc.ext hW).ps)
  clear K3 hb hc
  by_cases h1 : 0 ≤ la
  case neg =>
    rw [decide_eq_false h1] at HFa
    clear HFb HCa HCb HSa HSb h1 HN HLL
    go_wp2_with (first
      | (go_at_call 36; refine (HL.out _ hx12).mono ?_; rintro e w3 ⟨rfl, hx3⟩)
      | (refine wpl_loadNd rfl _ rfl z 0 h _ rfl (HA.out _ hx3) ?_)
      | (go_at_call 15; refine (HFa.out _ (hx12.trans hx3)).mono ?_; rintro e w4 ⟨rfl, hx4⟩))
    go_ret
    exact ⟨rfl, (hx12.trans hx3).trans hx4⟩
  rw [decide_eq_true h1] at HFa
  by_cases h2 : 0 ≤ lb
  case neg =>
    rw [decide_eq_false h2] at HFb
    clear HCa HCb HSa HSb h1 h2 HN HLL
    go_wp2_with (first
      | (go_at_call 36; refine (HL.out _ hx12).mono ?_; rintro e w3 ⟨rfl, hx3⟩)
      | (refine wpl_loadNd rfl _ rfl z 0 h _ rfl (HA.out _ hx3) ?_)
      | (go_at_call 15; refine (HFa.out _ (hx12.trans hx3)).mono ?_; rintro e w4 ⟨rfl, hx4⟩)
      | (refine wpl_loadPsG _ rfl rfl y 0 d _ rfl (HB.out _ (hx3.trans hx4)) ?_)
      | (go_at_call 37; refine (HFb.out _ ((hx12.trans hx3).trans hx4)).mono ?_; rintro e w5 ⟨rfl, hx5⟩))
    go_ret
    exact ⟨rfl, ((hx12.trans hx3).trans hx4).trans hx5⟩
  rw [decide_eq_true h2] at HFb
  by_cases h3 : s.size ≤ 500
  case neg =>
    have t3 : ¬ ((s.size : Int) ≤ 500) := by omega
    clear HCa HCb HSa HSb h1 h2 HN HLL
    go_wp2_with (first
      | (go_at_call 36; refine (HL.out _ hx12).mono ?_; rintro e w3 ⟨rfl, hx3⟩)
      | (refine wpl_loadNd rfl _ rfl z 0 h _ rfl (HA.out _ hx3) ?_)
      | (go_at_call 15; refine (HFa.out _ (hx12.trans hx3)).mono ?_; rintro e w4 ⟨rfl, hx4⟩)
      | (refine wpl_loadPsG _ rfl rfl y 0 d _ rfl (HB.out _ (hx3.trans hx4)) ?_)
      | (go_at_call 37; refine (HFb.out _ ((hx12.trans hx3).trans hx4)).mono ?_; rintro e w5 ⟨rfl, hx5⟩; obtain ⟨k0, _, _⟩ := HK.out _ ((hx3.trans hx4).trans hx5)))
    go_ret
    exact ⟨rfl, ((hx12.trans hx3).trans hx4).trans hx5⟩
  have HN2 := Lib.hid (fun W => HN.out W h3)
  have HCa2 := Lib.hid (fun W x hW hS => HCa.out h1 h2 h3 W x hW hS)
  have HCb2 := Lib.hid (fun W hW => HCb.out h1 h2 h3 W hW)
  have HSa2 := Lib.hid (fun W x hW hS => HSa.out h1 h2 h3 W x hW hS)
  have HSb2 := Lib.hid (fun W hW => HSb.out h1 h2 h3 W hW)
  have t3 : (s.size : Int) ≤ 500 := by omega
  clear HCa HCb HSa HSb h1 h2 HN h3
  go_upto_region 5 with (first
    | (go_at_call 36; refine (HL.out _ hx12).mono ?_; rintro e w3 ⟨rfl, hx3⟩)
    | (refine wpl_loadNd rfl _ rfl z 0 h _ rfl (HA.out _ hx3) ?_)
    | (go_at_call 15; refine (HFa.out _ (hx12.trans hx3)).mono ?_; rintro e w4 ⟨rfl, hx4⟩)
    | (refine wpl_loadPsG _ rfl rfl y 0 d _ rfl (HB.out _ (hx3.trans hx4)) ?_)
    | (go_at_call 37; refine (HFb.out _ ((hx12.trans hx3).trans hx4)).mono ?_; rintro e w5 ⟨rfl, hx5⟩; obtain ⟨k0, k1, k2⟩ := HK.out _ ((hx3.trans hx4).trans hx5)))
  have hx5 := (hx3.trans hx4).trans hx5
  go_upto_region 7 with (go_at_call 38; refine (HN2.out _).mono ?_; rintro e w6 ⟨⟨xv, rfl, hS⟩, hx6⟩; obtain ⟨m0, m1, m2⟩ := HK.out _ (hx5.trans hx6))
  have KR := Blk.new w6 65 #[.string s, .int .i64 c, .int .i64 e, .bool false]
  have hxA : Ext w6 (w6.alloc (.cells #[.string s, .int .i64 c, .int .i64 e, .bool false] 65)) := (Ext.refl w6).alloc _
  generalize w6.alloc (.cells #[.string s, .int .i64 c, .int .i64 e, .bool false] 65) = wA at *
  generalize w6.heap.size = v at *
  have hSA := hS.ext hxA
  have hx := (hx5.trans hx6).trans hxA
  have HNA := Lib.hid (HA.out _ hx)
  have HPA := Lib.hid (HB.out _ hx)
  have HKR := Lib.hid KR
  have HSA := Lib.hid hSA
  have hxw := hx12.trans hx
  clear hS hx3 hx4 hx5 hx6 hxA HL HFa HFb HN2 HK k0 k1 k2 m0 m1 m2 KR hSA t3
  refine wp_region_plus (by kernel_rfl) (by kernel_rfl) ?_
  repeat (first
    | (go_big_quiet_want; refine quiet_loadNd _ rfl z 0 h _ rfl HNA.out ?_; simp only [Act.put, List.setIfInBounds_toArray, List.set_cons_succ, List.set_cons_zero]; go_big_quiet_on)
    | (go_big_quiet_want; refine quiet_loadPs _ rfl y 0 d _ rfl HPA.out ?_; simp only [Act.put, List.setIfInBounds_toArray, List.set_cons_succ, List.set_cons_zero]; go_big_quiet_on)
    | (go_big_quiet_want; refine quiet_loadSr _ rfl v s c e false rfl HKR.out ?_; simp only [Act.put, List.setIfInBounds_toArray, List.set_cons_succ, List.set_cons_zero]; go_big_quiet_on)
    | (go_big_quiet_step ((first
      | (go_at_call 39; exact Calls.plus_of (HCa2.out _ xv (hxw.trans (plus_ext _ _)) (HSA.out.ext (plus_ext _ _))))
      | (go_at_call 40; exact Calls.plus_of (HCb2.out _ (hxw.trans (plus_ext _ _))))))))
  refine wpQuiet_nil ?_
  intro q
  have hq := plus_ext wA q
  generalize plus wA q = wB at *
  have hxB := hx.trans hq
  have hxWB := hxw.trans hq
  have e1 : (ck != ck) = false := by cases ck <;> rfl
  have HSB := Lib.hid (HSA.out.ext hq)
  have HKB := Lib.hid (HKR.out.ext hq)
  clear HNA HPA HKR HSA HCa2 HCb2 hx hxw hq
  have HKC := Lib.hid (fun W (hW : Ext wB W) => (⟨(HKB.out.ext hW).cell 0, (HKB.out.ext hW).cell 1, (HKB.out.ext hW).cell 2, (HKB.out.ext hW).cell 3⟩ : W.cell? ⟨v, 0, none⟩ = some (.string s) ∧ W.cell? ⟨v, 1, none⟩ = some (.int .i64 c) ∧ W.cell? ⟨v, 2, none⟩ = some (.int .i64 e) ∧ W.cell? ⟨v, 3, none⟩ = some (.bool false)))
  clear HKB
  go_upto_region 12 with (first
    | ((with_reducible refine wpl_loadNd rfl _ rfl z 0 h _ rfl (HA.out wB hxB) ?_))
    | ((with_reducible refine wpl_loadPs rfl _ rfl y 0 d _ rfl (HB.out wB hxB) ?_))
    | (go_at_call 41; ((with_reducible refine (HSa2.out wB xv hxWB HSB.out).mono ?_); rintro e w7 ⟨A1, c1, rfl, hO1, hx7⟩))
    | ((with_reducible refine wpl_loadNd rfl _ rfl z 0 h _ rfl (HA.out w7 (hxB.trans hx7)) ?_))
    | ((with_reducible refine wpl_loadPs rfl _ rfl y 0 d _ rfl (HB.out w7 (hxB.trans hx7)) ?_))
    | (go_at_call 41; ((with_reducible refine (HSa2.out w7 xv (hxWB.trans hx7) (HSB.out.ext hx7)).mono ?_); rintro e w8 ⟨A2, c2, rfl, hO2, hx8⟩; obtain ⟨k0, k1, k2, k3⟩ := HKC.out _ (hx7.trans hx8)))
    | ((with_reducible refine wpl_loadNd rfl _ rfl z 0 h _ rfl (HA.out w8 ((hxB.trans hx7).trans hx8)) ?_))
    | ((with_reducible refine wpl_loadPs rfl _ rfl y 0 d _ rfl (HB.out w8 ((hxB.trans hx7).trans hx8)) ?_))
    | (go_at_call 42; ((with_reducible refine (HSb2.out w8 ((hxWB.trans hx7).trans hx8)).mono ?_); rintro e w9 ⟨A3, c3, rfl, hO3, hx9⟩)))
  obtain ⟨F, hF⟩ : ∃ F : Nat → Prop, F = fun i => (Value.slice A1 L.length c1).ownBlock = some i := ⟨_, rfl⟩
  have hFown : ∀ i, F i → i < w7.heap.size := fun i hi => by rw [hF] at hi; exact (OwnR.own hO1 i hi).2
  have hO1C := OwnR.ext hO1 (hx8.trans hx9)
  have hO2C := OwnR.ext hO2 hx9
  have hxW9 := ((hxWB.trans hx7).trans hx8).trans hx9
  have hlen : L.length ≤ 1000 := HLL.out
  have hs1 := sameSpans_any _ _ L L w9 (by omega) (RdS.of_own hO1C) (RdS.of_own hO3)
  rw [decide_eq_true (rfl : L = L)] at hs1
  have HS1 := Lib.hid hs1
  have hBW := hxWB.size
  have h78 := hx8.size
  have HFB := Lib.hid (fun i (hi : F i) => (by rw [hF] at hi; exact (OwnR.own hO1 i hi).1 : wB.heap.size ≤ i))
  have e2 : (ok != ok) = false := by cases ok <;> rfl
  have HO1 := Lib.hid hO1C
  have HO2 := Lib.hid hO2C
  have HO3 := Lib.hid hO3
  have HF := Lib.hid hF
  have HFO := Lib.hid hFown
  have HO2B := Lib.hid (OwnR.own hO2)
  clear hs1 hO1 hO2 hO3 hO1C hO2C hx7 hx8 hx9 HKC HSB HSa2 HSb2 HA HB k0 k1 k2 k3 hxB hF hFown
  go_upto_region 14 with (go_at_call 43; refine HS1.out.mono ?_; rintro e wC ⟨rfl, hxC⟩)
  have hO1C := Lib.hid (OwnR.ext HO1.out hxC)
  have hO2C := Lib.hid (OwnR.ext HO2.out hxC)
  have hO3C := Lib.hid (OwnR.ext HO3.out hxC)
  have HO3B := Lib.hid (OwnR.own HO3.out)
  clear HS1 HO1 HO2 HO3
  have hxWC := hxW9.trans hxC
  clear hxC
  go_wp2
  go_loopw [92] (fun i wr => ∃ (k : Nat) (L' : List (Int × Int)), k ≤ L.length ∧ i = .int .i64 k ∧ L'.length = L.length ∧ OwnSp wr wB.heap.size (.slice A1 L.length c1) L' ∧ Keeps F wC wr) (fun i _ => L.length - (intOf i).toNat)
  case atStart => exact ⟨0, L, Nat.zero_le _, rfl, rfl, hO1C.out, Keeps.refl _ _⟩
  case round =>
    obtain ⟨k, L', hk, rfl, hl', hO, hkr⟩ := hrel
    by_cases hlt : k < L.length
    · obtain ⟨g1, cap, hv, hg1, hgl, hcp⟩ := OwnR.form hO (by rw [spR_len]; omega)
      simp only [Value.slice.injEq] at hv
      obtain ⟨rfl, hv2, rfl⟩ := hv
      have HFg : Hid (F g1) := Lib.hid (by rw [HF.out]; rfl)
      have t1 : (k : Int) < (L.length : Int) := by omega
      clear hO1C hO2C hO3C HO3B HO2B HFO HF hv2 hg1 hgl hcp
      go_upto_region 18 with (refine wpl_setSp rfl _ _ rfl rfl wB.heap.size g1 _ c1 L' k (77, 0) rfl rfl hO (by omega) ?_; intro w6 hO6 hk6)
      have hk6' := hkr.trans hk6 (fun i _ e => by subst e; exact HFg.out)
      clear hO hkr hk6
      go_wp2
      go_roundw
      case rel => exact ⟨k + 1, _, by omega, by go_num, by rw [List.length_set]; exact hl', hO6, hk6'⟩
      case measure => simp [intOf]; omega
    · have t1 : ¬ (k : Int) < (L.length : Int) := by omega
      have ha2 := OwnR.keeps hO2C.out hkr (fun i hi hf => by have h1 := (HO2B.out i hi).1; have h2 := HFO.out i hf; omega)
      have ha3 := OwnR.keeps hO3C.out hkr (fun i hi hf => by have h1 := (HO3B.out i hi).1; have h2 := HFO.out i hf; omega)
      have hxr : Ext w wr := hxWC.keepF hkr (fun i hi => Nat.le_trans hBW (HFB.out i hi))
      have hs2 := sameSpans_any _ _ L L wr (by omega) (RdS.of_own ha2) (RdS.of_own ha3)
      rw [decide_eq_true (rfl : L = L)] at hs2
      have HS2 := Lib.hid hs2
      clear hs2 ha2 ha3 hO hkr HF HFO HO2B hO1C hO2C hO3C HO3B HFB
      go_wp2_with (go_at_call 43; refine HS2.out.mono ?_; rintro e wD ⟨rfl, hxD⟩)
      go_ret
      exact ⟨rfl, hxr.trans hxD⟩

end Go.Proofs.YthddlhpndaffjaaDoor
