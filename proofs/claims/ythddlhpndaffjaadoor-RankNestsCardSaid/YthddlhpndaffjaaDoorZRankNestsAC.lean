/- RankCompares and RankOrders as walks. Condition: the parses lie in memory; the error values lie where they lie. RankNests as a walk. Condition: tree and parse lie in memory; the error values lie where they lie. -/
import Derived.Test.YthddlhpndaffjaaDoorZRankNestsAA
import Derived.Test.YthddlhpndaffjaaDoorPsO
import Derived.Test.YthddlhpndaffjaaDoorSpans
import Derived.Test.YthddlhpndaffjaaDoorZRankNestsAB
import Derived.Test.YthddlhpndaffjaaDoorSmSp
namespace Go.Proofs.YthddlhpndaffjaaDoor
open Go Go.RowKit

set_option maxRecDepth 100000 in
set_option maxHeartbeats 4000000 in
theorem rankCompares_walk (a b : Ps) (sva svb : Value) (w : World) (A : Nat → Addr) (ha : PsOk w a sva) (hb : PsOk w b svb) (hE : Err3 w A) :
    Calls Tryd.prog 11 #[psV a.d sva, psV b.d svb] w fun r w' => r = .returned (.bool true) ∧ Ext w w' := by
  have HL := Lib.hid (fun W (hW : Ext w W) => rlives_any W A (hE.ext hW))
  have HFa := Lib.hid (fun W (hW : Ext w W) => pfew_any a sva 3000 W (ha.ext hW) (by omega) (by omega))
  have HFb := Lib.hid (fun W (hW : Ext w W) => pfew_any b svb 3000 W (hb.ext hW) (by omega) (by omega))
  have HC := Lib.hid (fun W (hW : Ext w W) (h : 0 ≤ pleftN a 3000) => compare_any a sva b svb W (ha.ext hW) (hb.ext hW) (smallP_left a 3000 (by omega) h))
  have HD := Lib.hid (fun W (hW : Ext w W) (h : 0 ≤ pleftN a 3000) => rcompare_any a sva b svb W (ha.ext hW) (hb.ext hW) (smallP_left a 3000 (by omega) h))
  have HS := Lib.hid (fun W (hW : Ext w W) (h : 0 ≤ pleftN a 3000) => sameParse_any a sva b svb W (ha.ext hW) (hb.ext hW) (smallP_left a 3000 (by omega) h))
  have HE := Lib.hid (cmpN_same a b)
  clear ha hb hE
  generalize pleftN a 3000 = la at *
  generalize pleftN b 3000 = lb at *
  generalize cmpN a b = c at *
  generalize samePs a b = sp at *
  generalize a.d = da at *
  generalize b.d = db at *
  go_enter Tryd.func11, Tryd.ntmps11
  go_upto_region 1 with (first
    | (refine wpl_boxPs rfl _ rfl da _ rfl ?_; intro x w1 hb hx1 ex sx)
    | (refine wpl_boxPs rfl _ rfl db _ rfl ?_; intro y w2 hc hx2 ey sy))
  replace hb := hb.ext hx2
  replace hx1 := hx1.trans hx2
  clear hx2 ex sx ey sy
  by_cases h1 : 0 ≤ la
  case neg =>
    rw [decide_eq_false h1] at HFa
    clear HFb HC HD HS h1
    go_wp2_with (first
      | (go_at_call 36; refine (HL.out _ hx1).mono ?_; rintro e w3 ⟨rfl, hx3⟩)
      | (refine wpl_loadPs rfl _ rfl x 0 da _ rfl (hb.ext hx3).ps ?_)
      | (go_at_call 37; refine (HFa.out _ (hx1.trans hx3)).mono ?_; rintro e w4 ⟨rfl, hx4⟩))
    go_ret
    exact ⟨rfl, (hx1.trans hx3).trans hx4⟩
  rw [decide_eq_true h1] at HFa
  by_cases h2 : 0 ≤ lb
  case neg =>
    rw [decide_eq_false h2] at HFb
    clear HC HD HS h1 h2
    go_wp2_with (first
      | (go_at_call 36; refine (HL.out _ hx1).mono ?_; rintro e w3 ⟨rfl, hx3⟩)
      | (refine wpl_loadPs rfl _ rfl x 0 da _ rfl (hb.ext hx3).ps ?_)
      | (go_at_call 37; ((with_reducible refine (HFa.out _ (hx1.trans hx3)).mono ?_); rintro e w4 ⟨rfl, hx4⟩))
      | (refine wpl_loadPsG _ rfl rfl y 0 db _ rfl ((hc.ext hx3).ext hx4).ps ?_)
      | (go_at_call 37; ((with_reducible refine (HFb.out _ ((hx1.trans hx3).trans hx4)).mono ?_); rintro e w5 ⟨rfl, hx5⟩)))
    go_ret
    exact ⟨rfl, ((hx1.trans hx3).trans hx4).trans hx5⟩
  rw [decide_eq_true h2] at HFb
  have HC2 := Lib.hid (fun W hW => HC.out W hW h1)
  have HD2 := Lib.hid (fun W hW => HD.out W hW h1)
  have HS2 := Lib.hid (fun W hW => HS.out W hW h1)
  clear HC HD HS h1 h2
  go_upto_region 5 with (first
    | (go_at_call 36; refine (HL.out _ hx1).mono ?_; rintro e w3 ⟨rfl, hx3⟩)
    | (refine wpl_loadPs rfl _ rfl x 0 da _ rfl (hb.ext hx3).ps ?_)
    | (go_at_call 37; ((with_reducible refine (HFa.out _ (hx1.trans hx3)).mono ?_); rintro e w4 ⟨rfl, hx4⟩))
    | (refine wpl_loadPsG _ rfl rfl y 0 db _ rfl ((hc.ext hx3).ext hx4).ps ?_)
    | (go_at_call 37; ((with_reducible refine (HFb.out _ ((hx1.trans hx3).trans hx4)).mono ?_); rintro e w5 ⟨rfl, hx5⟩)))
  have HXA := Lib.hid (((hb.ext hx3).ext hx4).ext hx5).ps
  have HYA := Lib.hid (((hc.ext hx3).ext hx4).ext hx5).ps
  have hx := ((hx1.trans hx3).trans hx4).trans hx5
  clear hb hc hx1 hx3 hx4 hx5 HL HFa HFb
  have e1 : (c == c) = true := by simp
  have e2 : (c == 0) = sp := by rw [HE.out, Bool.eq_iff_iff]; simp
  clear HE
  refine wp_region_plus (by kernel_rfl) (by kernel_rfl) ?_
  repeat (first
    | (go_big_quiet_want; refine quiet_loadPs _ rfl x 0 da _ rfl HXA.out ?_; simp only [Act.put, List.setIfInBounds_toArray, List.set_cons_succ, List.set_cons_zero]; go_big_quiet_on)
    | (go_big_quiet_want; refine quiet_loadPs _ rfl y 0 db _ rfl HYA.out ?_; simp only [Act.put, List.setIfInBounds_toArray, List.set_cons_succ, List.set_cons_zero]; go_big_quiet_on)
    | (go_big_quiet_step ((first
      | (go_at_call 44; exact Calls.plus_of (HC2.out _ (hx.trans (plus_ext _ _))))
      | (go_at_call 45; exact Calls.plus_of (HD2.out _ (hx.trans (plus_ext _ _))))
      | (go_at_call 46; exact Calls.plus_of (HS2.out _ (hx.trans (plus_ext _ _))))))))
  refine wpQuiet_nil ?_
  intro v
  go_wp2
  go_ret
  exact ⟨by cases sp <;> rfl, hx.trans (plus_ext _ v)⟩

end Go.Proofs.YthddlhpndaffjaaDoor

namespace Go.Proofs.YthddlhpndaffjaaDoor
open Go Go.RowKit

set_option maxRecDepth 100000 in
theorem seenC_none : seenC [] = Array.replicate 1000 (.bool false) := by
  apply Array.ext_getElem?
  intro j
  have hsz : (seenC []).size = 1000 := by simp [seenC]
  rcases Nat.lt_or_ge j 1000 with hj | hj
  · rw [seenC_get _ _ hj]; simp [hj]
  · rw [Array.getElem?_eq_none (by rw [hsz]; exact hj), Array.getElem?_eq_none (by simpa using hj)]
set_option maxRecDepth 100000 in
theorem zero_seen : ∀ w, (zeroValue 80).run Tryd.prog w = .ok (.agg (seenC [])) w :=
  (zero_of_info (P := Tryd.prog) (t := 80) (v := .agg (seenC [])) (n := 1000) (by rw [seenC_none]; kernel_rfl)).1
/-- What RankNests asks of the spans. -/
def NestB (d : Pd) (L : List (Int × Int)) : Prop := 0 ≤ d.a ∧ L.length = 1000 ∧ getS L 0 = (d.a, d.b) ∧ ∀ y, 0 ≤ y → getS L y = (-1, -1) ∨ In d (getS L y)
theorem getS_get {L : List (Int × Int)} (k : Nat) (h : k < L.length) : getS L (k : Int) = L[k] := by
  unfold getS
  rw [Int.toNat_natCast, List.getD_eq_getElem?_getD, List.getElem?_eq_getElem h]
  rfl

/-- A new span; the store into it. -/
theorem wpl_allocSp {ops : Array Oper} {rest : List Oper} {o : Oper} {a : Act} {w : World} {Q : Exit → Act → World → Prop} (hgd : o.guard = none) (ho : o.op = .alloc 74)
    (hK : ∀ g w1, Blk w1 g 74 #[.int .i64 0, .int .i64 0] → Ext w w1 → w.heap.size ≤ g → g < w1.heap.size → wpList Tryd.prog ops Q rest (a.put o.dst (.pointer (some ⟨g, 0, none⟩))) w1) : wpList Tryd.prog ops Q (o :: rest) a w :=
  wpList_plain hgd fun _ hKK => by
    have hr : (execOp a.eval o).run Tryd.prog w = .ok (.value (.pointer (some ⟨w.heap.size, 0, none⟩))) (w.alloc (.cells #[.int .i64 0, .int .i64 0] 74)) := by
      unfold execOp
      rw [ho]
      simp [Instr.alloc, newVar, newRow, Value.cells]
    unfold Oper.wp
    rw [hr]
    exact hKK _ _ (hK _ _ (Blk.new w _ _) ((Ext.refl w).alloc _) (Nat.le_refl _) (by simp))
theorem wpl_storeSp {ops : Array Oper} {rest : List Oper} {o : Oper} {a : Act} {w : World} {Q : Exit → Act → World → Prop} (hgd : o.guard = none) (x y : Operand) (ho : o.op = .store 74 x y) (hd : o.dst = none) (g : Nat) (s s' : Int × Int) (hx : a.eval x = .pointer (some ⟨g, 0, none⟩)) (hy : a.eval y = .agg #[.int .i64 s.1, .int .i64 s.2]) (hB : Blk w g 74 #[.int .i64 s'.1, .int .i64 s'.2])
    (hK : ∀ w1, Blk w1 g 74 #[.int .i64 s.1, .int .i64 s.2] → Keeps (· = g) w w1 → wpList Tryd.prog ops Q rest a w1) : wpList Tryd.prog ops Q (o :: rest) a w := by
  have hpa : a.put o.dst undef = a := by rw [hd]; rfl
  rw [← hpa] at hK
  refine wpList_store_row hgd _ x y ho g #[.int .i64 s.1, .int .i64 s.2] hx hy _ #[.int .i64 s'.1, .int .i64 s'.2] hB info_sp rfl (by simp [Value.oneCell']) (hK _ (setRow_heap w g _ _ _ _ hB) ⟨rfl, rfl, rfl, by simp, fun k _ hk => setRow_other w g k _ hk⟩)
/-- A new pair; the store into it. -/
theorem wpl_allocPr {ops : Array Oper} {rest : List Oper} {o : Oper} {a : Act} {w : World} {Q : Exit → Act → World → Prop} (hgd : o.guard = none) (ho : o.op = .alloc 84)
    (hK : ∀ g w1, Blk w1 g 84 #[.int .i64 0, .int .i64 0] → Ext w w1 → w.heap.size ≤ g → g < w1.heap.size → wpList Tryd.prog ops Q rest (a.put o.dst (.pointer (some ⟨g, 0, none⟩))) w1) : wpList Tryd.prog ops Q (o :: rest) a w :=
  wpList_plain hgd fun _ hKK => by
    have hr : (execOp a.eval o).run Tryd.prog w = .ok (.value (.pointer (some ⟨w.heap.size, 0, none⟩))) (w.alloc (.cells #[.int .i64 0, .int .i64 0] 84)) := by
      unfold execOp
      rw [ho]
      simp [Instr.alloc, newVar, newRow, Value.cells]
    unfold Oper.wp
    rw [hr]
    exact hKK _ _ (hK _ _ (Blk.new w _ _) ((Ext.refl w).alloc _) (Nat.le_refl _) (by simp))
theorem wpl_storePr {ops : Array Oper} {rest : List Oper} {o : Oper} {a : Act} {w : World} {Q : Exit → Act → World → Prop} (hgd : o.guard = none) (x y : Operand) (ho : o.op = .store 84 x y) (hd : o.dst = none) (g : Nat) (s s' : Int × Int) (hx : a.eval x = .pointer (some ⟨g, 0, none⟩)) (hy : a.eval y = .agg #[.int .i64 s.1, .int .i64 s.2]) (hB : Blk w g 84 #[.int .i64 s'.1, .int .i64 s'.2])
    (hK : ∀ w1, Blk w1 g 84 #[.int .i64 s.1, .int .i64 s.2] → Keeps (· = g) w w1 → wpList Tryd.prog ops Q rest a w1) : wpList Tryd.prog ops Q (o :: rest) a w := by
  have hpa : a.put o.dst undef = a := by rw [hd]; rfl
  rw [← hpa] at hK
  refine wpList_store_row hgd _ x y ho g #[.int .i64 s.1, .int .i64 s.2] hx hy _ #[.int .i64 s'.1, .int .i64 s'.2] hB info_pr2 rfl (by simp [Value.oneCell']) (hK _ (setRow_heap w g _ _ _ _ hB) ⟨rfl, rfl, rfl, by simp, fun k _ hk => setRow_other w g k _ hk⟩)

def RetNs (w : World) (ok0 : Bool) (L0 : List (Int × Int)) (r : Ending) (w' : World) : Prop :=
  ∃ ok A cp L, r = .returned (.tuple #[.slice A L.length cp, .bool ok]) ∧ OwnSp w' w.heap.size (.slice A L.length cp) L ∧ (ok = true → ok0 = true ∧ L = L0) ∧ Ext w w'
theorem RetSp.ns {w w' : World} {ok : Bool} {l : List (Int × Int)} {r : Ending} (h : RetSp w ok l r w') : RetNs w ok l r w' := by
  rcases h with ⟨_, rfl, hx⟩ | ⟨ho, g, cp, rfl, hO, hx⟩
  · exact ⟨false, none, 0, [], rfl, OwnR.nil _ _ _ _, fun h => absurd h (by decide), hx⟩
  · exact ⟨true, _, cp, _, rfl, hO, fun _ => ⟨ho, rfl⟩, hx⟩

set_option maxRecDepth 100000 in
set_option maxHeartbeats 8000000 in
theorem rankNests_walk (n : Nd) (svn : Value) (s : ByteArray) (c e : Int) (p : Ps) (svp : Value) (w : World) (A : Nat → Addr) (hn : NdOk w n svn) (hp : PsOk w p svp) (hE : Err3 w A) :
    Calls Tryd.prog 13 #[nodeV n.h svn, .agg #[.string s, .int .i64 c, .int .i64 e], psV p.d svp] w fun r w' => r = .returned (.bool true) ∧ Ext w w' := by
  have HL := Lib.hid (fun W (hW : Ext w W) => rlives_any W A (hE.ext hW))
  have HFa := Lib.hid (fun W (hW : Ext w W) => few_any n svn 1000 W (hn.ext hW) (by omega) (by omega))
  have HFb := Lib.hid (fun W (hW : Ext w W) => pfew_any p svp 3000 W (hp.ext hW) (by omega) (by omega))
  have HN := Lib.hid (fun W (hs : s.size ≤ 500) => new_any s c e W (by omega))
  have HSa := Lib.hid (fun (h1 : 0 ≤ leftN n 1000) (h2 : 0 ≤ pleftN p 3000) (h3 : s.size ≤ 500) W x (hW : Ext w W) (hS : IsScene W x s (mkAt s c e s.size)) =>
    ((spansR_any (s := s) (c := c) (e := e) n svn p svp 999 W A 1000 (hn.ext hW) (hp.ext hW) (hE.ext hW) (by omega) h1 (smallP_left p 3000 (by omega) h2) hS (by omega)).mono fun _ _ => RetSp.ns : Calls Tryd.prog 41 #[nodeV n.h svn, x, psV p.d svp, .int .i64 999] W (RetNs W (okSp s c e n p 999) (spansN n p 999))))
  have HWi := Lib.hid (fun (h1 : 0 ≤ leftN n 1000) (ho : okSp s c e n p 999 = true) => (by
    have hsm := small_left n 1000 (by omega) h1
    unfold okSp checkN at ho
    simp only [Bool.and_eq_true, decide_eq_true_eq] at ho
    have hf := (chk_ok ho.2.1).1
    have hg := gnN_few n 1000 h1
    have hq := nests n p hf ho.2.2
    refine ⟨⟨(parse_in ho.2.2).1, by rw [spansN_len], hq.1, hq.2.1⟩, fun hnd => ⟨by have := prN_len n 0; omega, fun q hq' => ⟨hq.2.2 hnd q hq', gn_pos n hf _ (pr_mem0 n hf q hq').1, gn_pos n hf _ (pr_mem0 n hf q hq').2⟩⟩, fun W0 W gs gp h0 hW hgs hgp hst => ?_⟩
    have := within_any n svn W0 W 0 W0.heap.size gs gp [] [] (hn.ext h0) hf hsm hW (Nat.le_refl _) hgs hgp hW.size (by simp; omega) hst
    simp only [List.nil_append] at this
    refine this.mono fun r w' hr => ?_
    obtain ⟨b, h1, h2, h3⟩ := hr
    exact ⟨b, h1, h2, fun hb => ⟨(h3 hb).1, (h3 hb).2.1⟩⟩ :
    NestB p.d (spansN n p 999) ∧ ((gnN n).Nodup → (prN 0 n).length ≤ 1000 ∧ ∀ q ∈ prN 0 n, Nest (spansN n p 999) q ∧ (0 < q.1 ∧ q.1 ≤ 999) ∧ 0 < q.2 ∧ q.2 ≤ 999) ∧ ∀ (W0 W : World) (gs gp : Nat), Ext w W0 → Ext W0 W → W0.heap.size ≤ gs → W0.heap.size ≤ gp → WSt W W0.heap.size gs gp [] [] →
      Calls Tryd.prog 47 #[nodeV n.h svn, .int .i64 0, .pointer (some ⟨gp, 0, none⟩), .pointer (some ⟨gs, 0, none⟩)] W fun r w' => ∃ b, r = .returned (.bool b) ∧ Ext W0 w' ∧ (b = true → WSt w' W0.heap.size gs gp (gnN n) (prN 0 n) ∧ (gnN n).Nodup)))
  clear hn hp hE
  obtain ⟨la, HLA⟩ : ∃ la, Hid (la = leftN n 1000) := ⟨_, Lib.hid rfl⟩
  rw [← HLA.out] at HFa HSa HWi
  generalize pleftN p 3000 = lb at *
  generalize hsp : spansN n p 999 = L at *
  have HSP := Lib.hid hsp
  clear hsp
  generalize okSp s c e n p 999 = ok at *
  generalize n.h = h at *
  generalize p.d = d at *
  go_enter Tryd.func13, Tryd.ntmps13
  go_upto_region 1 with (first
    | (refine wpl_boxNd rfl _ rfl h _ rfl ?_; intro z w1 hb hx1 ex sx)
    | (refine wpl_boxPs rfl _ rfl d _ rfl ?_; intro y w2 hc hx2 ey sy))
  have K3 := (Blk.new w1 57 #[.string s, .int .i64 c, .int .i64 e]).ext hx2
  have hx12 := (hx1.alloc (.cells #[.string s, .int .i64 c, .int .i64 e] 57)).trans hx2
  replace hb := (hb.ext ((Ext.refl w1).alloc (.cells #[.string s, .int .i64 c, .int .i64 e] 57))).ext hx2
  generalize w1.heap.size = u at *
  clear hx1 hx2 ex sx ey sy
  have HK := Lib.hid (fun W (hW : Ext w2 W) => (⟨(K3.ext hW).cell 0, (K3.ext hW).cell 1, (K3.ext hW).cell 2⟩ : W.cell? ⟨u, 0, none⟩ = some (.string s) ∧ W.cell? ⟨u, 1, none⟩ = some (.int .i64 c) ∧ W.cell? ⟨u, 2, none⟩ = some (.int .i64 e)))
  have HA := Lib.hid (fun W (hW : Ext w2 W) => (hb.ext hW).nd)
  have HB := Lib.hid (fun W (hW : Ext w2 W) => (hc.ext hW).ps)
  clear K3 hb hc
  by_cases h1 : 0 ≤ la
  case neg =>
    rw [decide_eq_false h1] at HFa
    clear HFb HSa h1 HN HWi
    go_wp2_with (first
      | (go_at_call 36; refine (HL.out _ hx12).mono ?_; rintro e w3 ⟨rfl, hx3⟩)
      | (refine wpl_loadNd rfl _ rfl z 0 h _ rfl (HA.out _ hx3) ?_)
      | (go_at_call 15; refine (HFa.out _ (hx12.trans hx3)).mono ?_; rintro e w4 ⟨rfl, hx4⟩))
    go_ret
    exact ⟨rfl, (hx12.trans hx3).trans hx4⟩
  rw [decide_eq_true h1] at HFa
  by_cases h2 : 0 ≤ lb
  case neg =>
    rw [decide_eq_false h2] at HFb
    clear HSa h1 h2 HN HWi
    go_wp2_with (first
      | (go_at_call 36; refine (HL.out _ hx12).mono ?_; rintro e w3 ⟨rfl, hx3⟩)
      | (refine wpl_loadNd rfl _ rfl z 0 h _ rfl (HA.out _ hx3) ?_)
      | (go_at_call 15; refine (HFa.out _ (hx12.trans hx3)).mono ?_; rintro e w4 ⟨rfl, hx4⟩)
      | (refine wpl_loadPsG _ rfl rfl y 0 d _ rfl (HB.out _ (hx3.trans hx4)) ?_)
      | (go_at_call 37; refine (HFb.out _ ((hx12.trans hx3).trans hx4)).mono ?_; rintro e w5 ⟨rfl, hx5⟩))
    go_ret
    exact ⟨rfl, ((hx12.trans hx3).trans hx4).trans hx5⟩
  rw [decide_eq_true h2] at HFb
  by_cases h3 : s.size ≤ 500
  case neg =>
    have t3 : ¬ ((s.size : Int) ≤ 500) := by omega
    clear HSa h1 h2 HN HWi
    go_wp2_with (first
      | (go_at_call 36; refine (HL.out _ hx12).mono ?_; rintro e w3 ⟨rfl, hx3⟩)
      | (refine wpl_loadNd rfl _ rfl z 0 h _ rfl (HA.out _ hx3) ?_)
      | (go_at_call 15; refine (HFa.out _ (hx12.trans hx3)).mono ?_; rintro e w4 ⟨rfl, hx4⟩)
      | (refine wpl_loadPsG _ rfl rfl y 0 d _ rfl (HB.out _ (hx3.trans hx4)) ?_)
      | (go_at_call 37; refine (HFb.out _ ((hx12.trans hx3).trans hx4)).mono ?_; rintro e w5 ⟨rfl, hx5⟩; obtain ⟨k0, _, _⟩ := HK.out _ ((hx3.trans hx4).trans hx5)))
    go_ret
    exact ⟨rfl, ((hx12.trans hx3).trans hx4).trans hx5⟩
  have HN2 := Lib.hid (fun W => HN.out W h3)
  have HSa2 := Lib.hid (fun W x hW hS => HSa.out h1 h2 h3 W x hW hS)
  have HWi2 := Lib.hid (fun ho => HWi.out h1 ho)
  have t3 : (s.size : Int) ≤ 500 := by omega
  clear HSa HWi h1 h2 HN h3
  go_upto_region 5 with (first
    | (go_at_call 36; refine (HL.out _ hx12).mono ?_; rintro e w3 ⟨rfl, hx3⟩)
    | (refine wpl_loadNd rfl _ rfl z 0 h _ rfl (HA.out _ hx3) ?_)
    | (go_at_call 15; refine (HFa.out _ (hx12.trans hx3)).mono ?_; rintro e w4 ⟨rfl, hx4⟩)
    | (refine wpl_loadPsG _ rfl rfl y 0 d _ rfl (HB.out _ (hx3.trans hx4)) ?_)
    | (go_at_call 37; refine (HFb.out _ ((hx12.trans hx3).trans hx4)).mono ?_; rintro e w5 ⟨rfl, hx5⟩; obtain ⟨k0, k1, k2⟩ := HK.out _ ((hx3.trans hx4).trans hx5)))
  have hxB := (hx3.trans hx4).trans hx5
  have hxW := hx12.trans hxB
  clear hx3 hx4 hx5 HL HFa HFb t3 k0 k1 k2
  have KS := Lib.hid (fun w' (hw : Ext w5 w') => (by
    have q1 := HA.out w' (hxB.trans hw)
    have q2 := HB.out w' (hxB.trans hw)
    have q3 := HK.out w' (hxB.trans hw)
    exact ⟨⟨q1 0 (by decide), q1 1 (by decide), q1 2 (by decide), q1 3 (by decide), q1 4 (by decide), q1 5 (by decide), q1 6 (by decide), q1 7 (by decide), q1 8 (by decide), q1 9 (by decide)⟩, ⟨q2 0 (by decide), q2 1 (by decide), q2 2 (by decide), q2 3 (by decide)⟩, q3⟩ : (w'.cell? ⟨z, 0, none⟩ = some (.int .i64 h.kind) ∧ w'.cell? ⟨z, 1, none⟩ = some (.int .u64 (wd h.set 0 : Int)) ∧ w'.cell? ⟨z, 2, none⟩ = some (.int .u64 (wd h.set 1 : Int)) ∧ w'.cell? ⟨z, 3, none⟩ = some (.int .u64 (wd h.set 2 : Int)) ∧ w'.cell? ⟨z, 4, none⟩ = some (.int .u64 (wd h.set 3 : Int)) ∧ w'.cell? ⟨z, 5, none⟩ = some svn ∧ w'.cell? ⟨z, 6, none⟩ = some (.int .i64 h.num) ∧ w'.cell? ⟨z, 7, none⟩ = some (.int .i64 h.min) ∧ w'.cell? ⟨z, 8, none⟩ = some (.int .i64 h.max) ∧ w'.cell? ⟨z, 9, none⟩ = some (.bool h.bare)) ∧ (w'.cell? ⟨y, 0, none⟩ = some (.int .i64 d.a) ∧ w'.cell? ⟨y, 1, none⟩ = some (.int .i64 d.b) ∧ w'.cell? ⟨y, 2, none⟩ = some (.int .i64 d.k) ∧ w'.cell? ⟨y, 3, none⟩ = some svp) ∧ (w'.cell? ⟨u, 0, none⟩ = some (.string s) ∧ w'.cell? ⟨u, 1, none⟩ = some (.int .i64 c) ∧ w'.cell? ⟨u, 2, none⟩ = some (.int .i64 e))))
  have HSp := Lib.hid (fun W x (hW : Ext w5 W) (hS : IsScene W x s (mkAt s c e s.size)) => (HSa2.out W x (hxW.trans hW) hS : Calls Tryd.prog 41 #[.agg #[.int .i64 h.kind, .int .u64 (wd h.set 0 : Int), .int .u64 (wd h.set 1 : Int), .int .u64 (wd h.set 2 : Int), .int .u64 (wd h.set 3 : Int), svn, .int .i64 h.num, .int .i64 h.min, .int .i64 h.max, .bool h.bare], x, .agg #[.int .i64 d.a, .int .i64 d.b, .int .i64 d.k, svp], .int .i64 999] W (RetNs W ok L)))
  clear HSa2
  have HZ := Lib.hid hxB
  have HXW := Lib.hid hxW
  clear hxB hxW
  go_region_held3 (fun w' => (w'.cell? ⟨z, 0, none⟩ = some (.int .i64 h.kind) ∧ w'.cell? ⟨z, 1, none⟩ = some (.int .u64 (wd h.set 0 : Int)) ∧ w'.cell? ⟨z, 2, none⟩ = some (.int .u64 (wd h.set 1 : Int)) ∧ w'.cell? ⟨z, 3, none⟩ = some (.int .u64 (wd h.set 2 : Int)) ∧ w'.cell? ⟨z, 4, none⟩ = some (.int .u64 (wd h.set 3 : Int)) ∧ w'.cell? ⟨z, 5, none⟩ = some svn ∧ w'.cell? ⟨z, 6, none⟩ = some (.int .i64 h.num) ∧ w'.cell? ⟨z, 7, none⟩ = some (.int .i64 h.min) ∧ w'.cell? ⟨z, 8, none⟩ = some (.int .i64 h.max) ∧ w'.cell? ⟨z, 9, none⟩ = some (.bool h.bare)) ∧ (w'.cell? ⟨y, 0, none⟩ = some (.int .i64 d.a) ∧ w'.cell? ⟨y, 1, none⟩ = some (.int .i64 d.b) ∧ w'.cell? ⟨y, 2, none⟩ = some (.int .i64 d.k) ∧ w'.cell? ⟨y, 3, none⟩ = some svp) ∧ (w'.cell? ⟨u, 0, none⟩ = some (.string s) ∧ w'.cell? ⟨u, 1, none⟩ = some (.int .i64 c) ∧ w'.cell? ⟨u, 2, none⟩ = some (.int .i64 e)))
    ((first | exact KS.out _ (Ext.refl _).drew | exact KS.out _ hX7 | exact KS.out _ hX6))
    (first
      | (go_at_call 38; refine (HN2.out _).mono ?_; rintro e w6 ⟨⟨xv, rfl, hsN⟩, hx6⟩; have hX6 : Ext w5 w6 := (Ext.refl w5).drewr.trans hx6)
      | (go_at_call 41; refine (HSp.out _ xv hX6 hsN).mono ?_; rintro e w7 ⟨ok7, A7, c7, L7, rfl, hO7, hok7, hx7⟩; have hX7 : Ext w5 w7 := hX6.trans hx7))
  have hXW7 := HXW.out.trans hX7
  have hXB7 := HZ.out.trans hX7
  clear KS HSp HN2 hsN hx6 hx7 hX6 hX7 HXW HZ HK
  cases ok7
  · clear HWi2 HA HB hO7 hok7
    go_wp2
    go_ret
    exact ⟨rfl, hXW7⟩
  obtain ⟨hok, rfl⟩ := hok7 rfl
  obtain ⟨⟨hda, hlen, hfirst, hat⟩, hnest, hwith⟩ := HWi2.out hok
  have HWT := Lib.hid hwith
  have HNE := Lib.hid hnest
  have HAT := Lib.hid hat
  have HRD := Lib.hid (RdS.of_own hO7)
  have HOW := Lib.hid (OwnR.own hO7)
  rw [hlen] at HRD HOW ⊢
  have hcell : ∀ W, Ext w7 W → ∀ j, j < 1000 → ∃ g, A7 = some ⟨g, 0, none⟩ ∧ W.cell? ⟨g, j * 2, none⟩ = some (.int .i64 (getS L7 (j : Int)).1) ∧ W.cell? ⟨g, j * 2 + 1, none⟩ = some (.int .i64 (getS L7 (j : Int)).2) := fun W hW j hj => by
    rcases OwnR.form hO7 (by rw [spR_len, hlen]; omega) with ⟨g, cap, hv, _⟩
    simp only [Value.slice.injEq] at hv
    obtain ⟨hv1, _, _⟩ := hv
    obtain ⟨A, c', hA, hc⟩ := HRD.out
    simp only [Value.slice.injEq] at hA
    obtain ⟨g', o', h1, h2, h3⟩ := hc j (by omega)
    rw [← hA.1, hv1] at h1
    simp only [Option.some.injEq, Addr.mk.injEq, and_true] at h1
    obtain ⟨rfl, rfl⟩ := h1
    rw [getS_get j (by omega)]
    exact ⟨g, hv1, by simpa using hW.cell h2, by simpa using hW.cell h3⟩
  have HC := Lib.hid hcell
  obtain ⟨g7, rfl, c0, c1⟩ := hcell w7 (Ext.refl _) 0 (by decide)
  rw [show ((0 : Nat) : Int) = 0 from rfl, hfirst] at c0 c1
  have p0 := cell_plus c0
  have p1 := cell_plus c1
  have r0 := cell_plus (show w7.cell? ⟨y, 0, none⟩ = some (.int .i64 d.a) from HB.out w7 hXB7 0 (by decide))
  have r1 := cell_plus (show w7.cell? ⟨y, 1, none⟩ = some (.int .i64 d.b) from HB.out w7 hXB7 1 (by decide))
  have hne := neq_span d.a d.b d.a d.b
  rw [decide_eq_true (⟨rfl, rfl⟩ : d.a = d.a ∧ d.b = d.b)] at hne
  have HDA := Lib.hid hda
  clear hwith hnest hat hok7 hok HWi2 hcell c0 c1 hO7 hda hfirst hlen
  go_upto_region 8 with fail
  refine wp_region_plus (by kernel_rfl) (by kernel_rfl) ?_
  repeat (go_big_quiet_step (fail))
  refine wpQuiet_nil ?_
  intro v
  have hxv := plus_ext w7 v
  generalize plus w7 v = w8 at *
  clear p0 p1 r0 r1 hne
  have hxB8 := hXB7.trans hxv
  have hxW8 := hXW7.trans hxv
  have hx88 := Ext.refl w8
  have HXV := Lib.hid hxv
  clear hXW7 hXB7 hxv
  go_wp2
  go_loopw [64] (fun i wr => ∃ k : Nat, k ≤ 1000 ∧ i = .int .i64 k ∧ Ext w8 wr) (fun i _ => 1000 - (intOf i).toNat)
  case atStart => exact ⟨0, by omega, rfl, hx88⟩
  case round =>
    clear hx88
    obtain ⟨k, hk, rfl, hxr⟩ := hrel
    by_cases hlt : k < 1000
    · obtain ⟨g, he, b0, b1⟩ := HC.out wr (HXV.out.trans hxr) k hlt
      simp only [Option.some.injEq, Addr.mk.injEq, and_true] at he
      subst he
      have hy := HAT.out (k : Int) (by omega)
      unfold In at hy
      have hda := HDA.out
      generalize getS L7 (k : Int) = sp at *
      obtain ⟨x0, x1⟩ := sp
      simp only [Prod.mk.injEq] at hy
      simp only at b0 b1
      have HY := Lib.hid (fun W (hW : Ext wr W) => (⟨HB.out W ((hxB8.trans hxr).trans hW) 0 (by decide), HB.out W ((hxB8.trans hxr).trans hW) 1 (by decide)⟩ : W.cell? ⟨y, 0, none⟩ = some (.int .i64 d.a) ∧ W.cell? ⟨y, 1, none⟩ = some (.int .i64 d.b)))
      have t1 : (k : Int) < 1000 := by omega
      have HXR := Lib.hid hxr
      generalize d.a = da at *
      generalize d.b = db at *
      have HYY := Lib.hid hy
      have HDD := Lib.hid hda
      clear hy hxr HA HB HC HNE HWT HAT HRD HOW HDA hda
      go_upto_region 13 with (first
        | (refine wpl_allocSp rfl rfl ?_; intro b w3 hb hx3 eb sb)
        | (refine wpl_storeSp rfl _ _ rfl rfl b (x0, x1) (0, 0) rfl rfl hb ?_; intro w4 hb4 hk4))
      have hx34 := hx3.keep1 hk4 eb
      obtain ⟨y0, y1⟩ := HY.out w4 hx34
      have s0 : w4.cell? ⟨b, 0, none⟩ = some (.int .i64 x0) := hb4.cell 0
      have s1 : w4.cell? ⟨b, 1, none⟩ = some (.int .i64 x1) := hb4.cell 1
      have hxe := HXR.out.trans hx34
      clear hb hx3 hk4 eb sb hb4 hx34 HXR HY b0 b1
      by_cases hun : x0 = -1 ∧ x1 = -1
      · obtain ⟨rfl, rfl⟩ := hun
        clear HYY HDD
        go_wp2
        go_roundw
        case rel => exact ⟨k + 1, by omega, by go_num, hxe⟩
        case measure => simp [intOf]; omega
      · have hy := HYY.out
        have hdd := HDD.out
        have e1 : (x0 == -1) = false := by rw [beq_eq_false_iff_ne]; omega
        have n1 : ¬ (x0 < da) := by omega
        have n2 : ¬ (db < x1) := by omega
        have n3 : ¬ (x1 < x0) := by omega
        clear hy hdd HYY HDD hun
        go_wp2
        go_roundw
        case rel => exact ⟨k + 1, by omega, by go_num, hxe⟩
        case measure => simp [intOf]; omega
    · have t1 : ¬ (k : Int) < 1000 := by omega
      have hzz := zero_seen
      have hxwr := hxW8.trans hxr
      have hxBr := hxB8.trans hxr
      have hx7r := HXV.out.trans hxr
      clear hxr hxB8 hxW8 HAT HDA HRD HOW HXV
      go_upto_region 19 with fail
      have hgp := (Blk.new wr 79 #[.slice none 0 0]).alloc (.cells (seenC []) 80)
      have hgs := Blk.new (wr.alloc (.cells #[.slice none 0 0] 79)) 80 (seenC [])
      have hxa : Ext wr ((wr.alloc (.cells #[.slice none 0 0] 79)).alloc (.cells (seenC []) 80)) := ((Ext.refl wr).alloc _).alloc _
      have hsz : (wr.alloc (.cells #[.slice none 0 0] 79)).heap.size = wr.heap.size + 1 := by simp
      rw [hsz] at hgs
      have HNA := Lib.hid (HA.out _ (hxBr.trans hxa))
      have HCW := Lib.hid (HWT.out wr _ (wr.heap.size + 1) wr.heap.size hxwr hxa (by omega) (Nat.le_refl _) ⟨hgs, _, hgp, OwnR.nil _ _ _ _⟩)
      clear hgp hgs hxa hsz hzz HWT HA HB hxBr
      generalize (wr.alloc (.cells #[.slice none 0 0] 79)).alloc (.cells (seenC []) 80) = wa at *
      generalize hgp0 : wr.heap.size = gp at *
      have HGP := Lib.hid hgp0
      clear hgp0
      go_upto_region 21 with (first
        | (refine wpl_loadNd rfl _ rfl z 0 h _ rfl HNA.out ?_)
        | (go_at_call 47; refine HCW.out.mono ?_; rintro e w9 ⟨bq, rfl, hx9, hq9⟩; cases bq))
      · go_ret
        exact ⟨rfl, hxwr.trans hx9⟩
      obtain ⟨hst, hnd⟩ := hq9 trivial
      have hq := HNE.out hnd
      have hxw9 := hxwr.trans hx9
      have hx79 := hx7r.trans hx9
      obtain ⟨pv, hpb, hpo⟩ := hst.pairs
      obtain ⟨hql, hq⟩ := hq
      obtain ⟨A9, c9, rfl, _⟩ := OwnR.shape hpo
      rw [spR_len] at hpo hpb
      have c0 : w9.cell? ⟨gp, 0, none⟩ = some (.slice A9 (prN 0 n).length c9) := hpb.cell 0
      generalize prN 0 n = Q at *
      have HQ := Lib.hid hq
      have HPO := Lib.hid hpo
      have HXW9 := Lib.hid hxw9
      have HX79 := Lib.hid hx79
      have hx99 := Ext.refl w9
      clear hst hnd hq hpb hpo hq9 HNE hxw9 hx79 hx9 hxwr hx7r HCW HGP HNA
      go_wp2
      go_loopw [101] (fun i wr => ∃ k : Nat, k ≤ Q.length ∧ i = .int .i64 k ∧ Ext w9 wr) (fun i _ => Q.length - (intOf i).toNat)
      case atStart => exact ⟨0, by omega, rfl, hx99⟩
      case round =>
        clear hx99 c0 hk hlt t1
        obtain ⟨k, hk, rfl, hxr⟩ := hrel
        by_cases hlt : k < Q.length
        · obtain ⟨g9, cap, hv, _⟩ := OwnR.form HPO.out (by rw [spR_len]; omega)
          simp only [Value.slice.injEq] at hv
          obtain ⟨rfl, hv2, rfl⟩ := hv
          clear hv2
          have q0 : wr.cell? ⟨g9, k * 2, none⟩ = some (.int .i64 Q[k].1) := hxr.cell (OwnR.cell HPO.out k _ (spR_get Q k hlt) 0 (by decide))
          have q1 : wr.cell? ⟨g9, k * 2 + 1, none⟩ = some (.int .i64 Q[k].2) := hxr.cell (OwnR.cell HPO.out k _ (spR_get Q k hlt) 1 (by decide))
          obtain ⟨hne, ⟨h1, h2⟩, h3, h4⟩ := HQ.out Q[k] (List.getElem_mem hlt)
          generalize Q[k] = qq at *
          obtain ⟨x1, x2⟩ := qq
          simp only at q0 q1 h1 h2 h3 h4
          obtain ⟨j1, rfl⟩ := Int.eq_ofNat_of_zero_le (show 0 ≤ x1 by omega)
          obtain ⟨j2, rfl⟩ := Int.eq_ofNat_of_zero_le (show 0 ≤ x2 by omega)
          have HCc := Lib.hid (fun W (hW : Ext wr W) => (by
            obtain ⟨g, he, b0, b1⟩ := HC.out W ((HX79.out.trans hxr).trans hW) j1 (by omega)
            obtain ⟨g', he', b2, b3⟩ := HC.out W ((HX79.out.trans hxr).trans hW) j2 (by omega)
            simp only [Option.some.injEq, Addr.mk.injEq, and_true] at he he'
            subst he
            subst he'
            exact ⟨b0, b1, b2, b3⟩ : W.cell? ⟨g7, j1 * 2, none⟩ = some (.int .i64 (getS L7 (j1 : Int)).1) ∧ W.cell? ⟨g7, j1 * 2 + 1, none⟩ = some (.int .i64 (getS L7 (j1 : Int)).2) ∧ W.cell? ⟨g7, j2 * 2, none⟩ = some (.int .i64 (getS L7 (j2 : Int)).1) ∧ W.cell? ⟨g7, j2 * 2 + 1, none⟩ = some (.int .i64 (getS L7 (j2 : Int)).2)))
          unfold Nest at hne
          simp only at hne
          generalize getS L7 (j1 : Int) = sa at *
          generalize getS L7 (j2 : Int) = sb at *
          obtain ⟨a0, a1⟩ := sa
          obtain ⟨b0, b1⟩ := sb
          simp only [Prod.mk.injEq] at hne
          have HNEQ := Lib.hid hne
          have HXR := Lib.hid hxr
          have t1 : (k : Int) < (Q.length : Int) := by omega
          have d1 : (j1 : Int) < 1000 := by omega
          have d2 : (j2 : Int) < 1000 := by omega
          clear HPO HQ hne h1 h2 h3 h4 HC HX79 hxr
          go_upto_region 24 with (first
            | (refine wpl_allocPr rfl rfl ?_; intro b w3 hb hx3 eb sb)
            | (refine wpl_storePr rfl _ _ rfl rfl b ((j1 : Int), (j2 : Int)) (0, 0) rfl rfl hb ?_; intro w4 hb4 hk4))
          have hx34 := hx3.keep1 hk4 eb
          have KS := Lib.hid (fun w' (hw : Ext w4 w') => (⟨(hb4.ext hw).cell 0, (hb4.ext hw).cell 1, HCc.out w' (hx34.trans hw)⟩ : w'.cell? ⟨b, 0, none⟩ = some (.int .i64 (j1 : Int)) ∧ w'.cell? ⟨b, 1, none⟩ = some (.int .i64 (j2 : Int)) ∧ w'.cell? ⟨g7, j1 * 2, none⟩ = some (.int .i64 a0) ∧ w'.cell? ⟨g7, j1 * 2 + 1, none⟩ = some (.int .i64 a1) ∧ w'.cell? ⟨g7, j2 * 2, none⟩ = some (.int .i64 b0) ∧ w'.cell? ⟨g7, j2 * 2 + 1, none⟩ = some (.int .i64 b1)))
          have hxe := Lib.hid (HXR.out.trans hx34)
          clear hb hx3 hk4 eb sb hb4 hx34 HXR HCc q0 q1
          go_region_held3 (fun w' => w'.cell? ⟨b, 0, none⟩ = some (.int .i64 (j1 : Int)) ∧ w'.cell? ⟨b, 1, none⟩ = some (.int .i64 (j2 : Int)) ∧ w'.cell? ⟨g7, j1 * 2, none⟩ = some (.int .i64 a0) ∧ w'.cell? ⟨g7, j1 * 2 + 1, none⟩ = some (.int .i64 a1) ∧ w'.cell? ⟨g7, j2 * 2, none⟩ = some (.int .i64 b0) ∧ w'.cell? ⟨g7, j2 * 2 + 1, none⟩ = some (.int .i64 b1))
            ((refine KS.out _ ?_; repeat (first | exact Ext.refl _ | (refine Ext.drewr ?_) | (refine Ext.setCell ?_ (by simp) _) | (refine Ext.alloc ?_ _))))
            (fail)
          · have hA : Blk ((w4.alloc (.cells #[.int .i64 a0, .int .i64 a1] 74)).alloc (.cells #[.int .i64 b0, .int .i64 b1] 74)).drew w4.heap.size 74 #[.int .i64 a0, .int .i64 a1] := ((Blk.new w4 _ _).alloc _).drew
            have hB : Blk ((w4.alloc (.cells #[.int .i64 a0, .int .i64 a1] 74)).alloc (.cells #[.int .i64 b0, .int .i64 b1] 74)).drew (w4.heap.size + 1) 74 #[.int .i64 b0, .int .i64 b1] := by
              have := Blk.new (w4.alloc (.cells #[.int .i64 a0, .int .i64 a1] 74)) 74 #[.int .i64 b0, .int .i64 b1]
              rw [show (w4.alloc (.cells #[.int .i64 a0, .int .i64 a1] 74)).heap.size = w4.heap.size + 1 by simp] at this
              exact this.drew
            have hxz : Ext w4 ((w4.alloc (.cells #[.int .i64 a0, .int .i64 a1] 74)).alloc (.cells #[.int .i64 b0, .int .i64 b1] 74)).drew := Ext.drewr (((Ext.refl w4).alloc _).alloc _)
            generalize ((w4.alloc (.cells #[.int .i64 a0, .int .i64 a1] 74)).alloc (.cells #[.int .i64 b0, .int .i64 b1] 74)).drew = wz at *
            generalize w4.heap.size = gz at *
            have s0 : wz.cell? ⟨gz, 0, none⟩ = some (.int .i64 a0) := hA.cell 0
            have s1 : wz.cell? ⟨gz, 1, none⟩ = some (.int .i64 a1) := hA.cell 1
            have s2 : wz.cell? ⟨gz + 1, 0, none⟩ = some (.int .i64 b0) := hB.cell 0
            have s3 : wz.cell? ⟨gz + 1, 1, none⟩ = some (.int .i64 b1) := hB.cell 1
            have hxf := hxe.out.trans hxz
            clear hA hB hxz KS hxe
            by_cases hun : b0 = -1 ∧ b1 = -1
            · obtain ⟨rfl, rfl⟩ := hun
              clear HNEQ
              go_wp2
              go_roundw
              case rel => exact ⟨k + 1, by omega, by go_num, hxf⟩
              case measure => simp [intOf]; omega
            · have hy := HNEQ.out
              have m0 : 0 ≤ b0 := by omega
              have m1 : ¬ (a0 < 0) := by omega
              have m2 : ¬ (b0 < a0) := by omega
              have m3 : ¬ (a1 < b1) := by omega
              clear hy hun HNEQ
              go_wp2
              go_roundw
              case rel => exact ⟨k + 1, by omega, by go_num, hxf⟩
              case measure => simp [intOf]; omega
          · have hA : Blk ((w4.alloc (.cells #[.int .i64 b0, .int .i64 b1] 74)).alloc (.cells #[.int .i64 a0, .int .i64 a1] 74)).drew w4.heap.size 74 #[.int .i64 b0, .int .i64 b1] := ((Blk.new w4 _ _).alloc _).drew
            have hB : Blk ((w4.alloc (.cells #[.int .i64 b0, .int .i64 b1] 74)).alloc (.cells #[.int .i64 a0, .int .i64 a1] 74)).drew (w4.heap.size + 1) 74 #[.int .i64 a0, .int .i64 a1] := by
              have := Blk.new (w4.alloc (.cells #[.int .i64 b0, .int .i64 b1] 74)) 74 #[.int .i64 a0, .int .i64 a1]
              rw [show (w4.alloc (.cells #[.int .i64 b0, .int .i64 b1] 74)).heap.size = w4.heap.size + 1 by simp] at this
              exact this.drew
            have hxz : Ext w4 ((w4.alloc (.cells #[.int .i64 b0, .int .i64 b1] 74)).alloc (.cells #[.int .i64 a0, .int .i64 a1] 74)).drew := Ext.drewr (((Ext.refl w4).alloc _).alloc _)
            generalize ((w4.alloc (.cells #[.int .i64 b0, .int .i64 b1] 74)).alloc (.cells #[.int .i64 a0, .int .i64 a1] 74)).drew = wz at *
            generalize w4.heap.size = gz at *
            have s0 : wz.cell? ⟨gz, 0, none⟩ = some (.int .i64 b0) := hA.cell 0
            have s1 : wz.cell? ⟨gz, 1, none⟩ = some (.int .i64 b1) := hA.cell 1
            have s2 : wz.cell? ⟨gz + 1, 0, none⟩ = some (.int .i64 a0) := hB.cell 0
            have s3 : wz.cell? ⟨gz + 1, 1, none⟩ = some (.int .i64 a1) := hB.cell 1
            have hxf := hxe.out.trans hxz
            clear hA hB hxz KS hxe
            by_cases hun : b0 = -1 ∧ b1 = -1
            · obtain ⟨rfl, rfl⟩ := hun
              clear HNEQ
              go_wp2
              go_roundw
              case rel => exact ⟨k + 1, by omega, by go_num, hxf⟩
              case measure => simp [intOf]; omega
            · have hy := HNEQ.out
              have m0 : 0 ≤ b0 := by omega
              have m1 : ¬ (a0 < 0) := by omega
              have m2 : ¬ (b0 < a0) := by omega
              have m3 : ¬ (a1 < b1) := by omega
              clear hy hun HNEQ
              go_wp2
              go_roundw
              case rel => exact ⟨k + 1, by omega, by go_num, hxf⟩
              case measure => simp [intOf]; omega
        · have t1 : ¬ (k : Int) < (Q.length : Int) := by omega
          clear HPO HQ HC HX79
          go_wp2
          go_ret
          exact ⟨rfl, HXW9.out.trans hxr⟩

end Go.Proofs.YthddlhpndaffjaaDoor
