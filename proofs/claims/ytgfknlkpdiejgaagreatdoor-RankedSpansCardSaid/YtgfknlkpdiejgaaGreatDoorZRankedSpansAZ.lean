/- trawlref22.left and seq as contracts. Condition: the trees lie in memory. trawlref22.back and cut as contracts. Conditions: the trees lie in memory, the places are the subject's. trawlref22.cut as a contract: where a piece is cut. Conditions: both trees lie in memory; the piece can be cut. Parses that a call makes, in blocks from some block on; a list of such parses under way. No condition. -/
import Derived.Test.YtgfknlkpdiejgaaGreatDoorZRankedSpansAT
import Derived.Test.YtgfknlkpdiejgaaGreatDoorZRankedSpansAJ
import Derived.Test.YtgfknlkpdiejgaaGreatDoorZRankedSpansAX
import Derived.Test.YtgfknlkpdiejgaaGreatDoorZRankedSpansAY
import Derived.Test.YtgfknlkpdiejgaaGreatDoorZRankedSpansAQ
import Derived.Test.YtgfknlkpdiejgaaGreatDoorZRankedSpansAU
import Derived.Test.YtgfknlkpdiejgaaGreatDoorZRankedSpansAK
namespace Go.Proofs.YtgfknlkpdiejgaaGreatDoor
open Go Go.RowKit

def leftH (h : Hd) : Hd := { h with min := max (h.min - 1) 0, max := if 0 < h.max then h.max - 1 else h.max }
set_option maxRecDepth 100000 in
set_option maxHeartbeats 4000000 in
theorem rleft_any (h : Hd) (svn : Value) (w : World) (hsl : isSl svn) (h1 : 0 ≤ h.min ∧ h.min ≤ 100000) (h2 : -1 ≤ h.max ∧ h.max ≤ 100000) :
    Calls Tryz.prog 83 #[nodeV h svn] w fun r w' => r = .returned (nodeV (leftH h) svn) ∧ Ext w w' := by
  have HL7 : Hid (∀ k : Int, nodeA { h with min := k } svn = (nodeA h svn).setIfInBounds 7 (.int .i64 k)) := Lib.hid (fun k => rfl)
  have HL8 : Hid (∀ k k' : Int, nodeA { h with min := k, max := k' } svn = (nodeA { h with min := k } svn).setIfInBounds 8 (.int .i64 k')) := Lib.hid (fun k k' => rfl)
  have HLF : Hid (leftH h = { h with min := max (h.min - 1) 0, max := if 0 < h.max then h.max - 1 else h.max }) := Lib.hid rfl
  generalize leftH h = lh at *
  go_enter Tryz.func83, Tryz.ntmps83
  go_upto_region 1 with (first
    | (refine wpl_boxNd rfl _ rfl h _ rfl ?_; intro b w1 hb hx1 eb sb)
    | (refine wpl_allocNd rfl rfl ?_; intro z w2 hz hx2 ez sz))
  have hx12 := hx1.trans hx2
  have hb2 := hb.ext hx2
  have hbz : b ≠ z := by omega
  have c7 : w2.cell? ⟨b, 7, none⟩ = some (.int .i64 h.min) := hb2.cell 7
  have f7 := hb2.frozen 7
  have HB2 := Lib.hid hb2
  have HZ2 := Lib.hid hz
  have HX := Lib.hid hx12
  have hwb : w.heap.size ≤ b := eb
  have hwz : w.heap.size ≤ z := by have := hx1.size; omega
  obtain ⟨mn, hmn⟩ : ∃ mn, mn = h.min := ⟨_, rfl⟩
  obtain ⟨mx, hmx⟩ : ∃ mx, mx = h.max := ⟨_, rfl⟩
  rw [← hmn] at c7 HLF h1
  rw [← hmx] at HLF h2
  have HMX := Lib.hid hmx
  have q1 : IntKind.i64.wrap (mn - 1) = mn - 1 := by rw [IntKind.wrap_i64]; omega
  obtain ⟨mq, HMQ⟩ : ∃ mq, Hid (mq = max (mn - 1) 0) := ⟨_, Lib.hid rfl⟩
  rw [← HMQ.out] at HLF
  clear hb hx1 hx2 eb sb ez sz hz hb2 hx12 hmn hmx
  try simp only [Act.put, List.setIfInBounds_toArray, List.set_cons_zero, List.set_cons_succ]
  go_cut [] (fun wx => Blk wx b 27 (nodeA { h with min := mq } svn) ∧ Keeps (· = b) w2 wx)
  case first =>
    go_wp2
    all_goals go_meet
    all_goals
      refine ⟨?_, (Keeps.refl (· = b) w2).setCell (p := ⟨b, 7, none⟩) (.inr rfl) _⟩
      rw [HL7.out]
      first
        | (rw [show mq = 0 by have := HMQ.out; omega]; exact HB2.out.set 7 _)
        | (rw [show mq = mn - 1 by have := HMQ.out; omega]; exact HB2.out.set 7 _)
        | (rw [show mq = max (mn - 1) 0 from HMQ.out]; exact HB2.out.set 7 _)
  obtain ⟨hB3, hk3⟩ := hcut
  obtain ⟨w3, hw3⟩ : ∃ w, w = wc := ⟨_, rfl⟩
  subst hw3
  have c8 : w3.cell? ⟨b, 8, none⟩ = some (.int .i64 h.max) := hB3.cell 8
  rw [← HMX.out] at c8
  have f8 := hB3.frozen 8
  have HB3 := Lib.hid hB3
  have HK3 := Lib.hid hk3
  have HZ3 := Lib.hid (HZ2.out.keep1 hk3 (fun e => hbz e.symm))
  clear hB3 hk3 c7 f7 q1
  by_cases hp : 0 < mx
  · have HE : Hid (lh = { h with min := mq, max := mx - 1 }) := Lib.hid (by rw [HLF.out, if_pos hp])
    have q2 : IntKind.i64.wrap (mx - 1) = mx - 1 := by rw [IntKind.wrap_i64]; omega
    go_upto_region 4 with fail
    have HB4 : Hid (Blk (w3.setCell ⟨b, 8, none⟩ (.int .i64 (mx - 1))) b 27 (nodeA lh svn)) := Lib.hid (by rw [HE.out, HL8.out]; exact HB3.out.set 8 _)
    have hk4 : Keeps (· = b) w3 (w3.setCell ⟨b, 8, none⟩ (.int .i64 (mx - 1))) := (Keeps.refl (· = b) w3).setCell (p := ⟨b, 8, none⟩) (.inr rfl) _
    generalize w3.setCell ⟨b, 8, none⟩ (.int .i64 (mx - 1)) = w4 at *
    have HZ4 := Lib.hid (HZ3.out.keep1 hk4 (fun e => hbz e.symm))
    have HK4 := Lib.hid hk4
    clear hk4 c8 f8 q2
    go_wp2_with (first
      | (refine wpl_loadNd rfl _ rfl b 0 lh svn rfl HB4.out.nd ?_)
      | (refine wpl_storeNd rfl _ _ rfl rfl z lh _ svn _ rfl rfl hsl HZ4.out ?_; intro w5 hz5 hk5))
    exact ret_nd rfl rfl rfl hz5 ⟨rfl, ((HX.out.keep1 HK3.out hwb).keep1 HK4.out hwb).keep1 hk5 hwz⟩
  · have HE : Hid (lh = { h with min := mq }) := Lib.hid (by rw [HLF.out, if_neg hp, HMX.out])
    have HB4 : Hid (Blk w3 b 27 (nodeA lh svn)) := Lib.hid (by rw [HE.out]; exact HB3.out)
    go_wp2_with (first
      | (refine wpl_loadNd rfl _ rfl b 0 lh svn rfl HB4.out.nd ?_)
      | (refine wpl_storeNd rfl _ _ rfl rfl z lh _ svn _ rfl rfl hsl HZ3.out ?_; intro w5 hz5 hk5))
    exact ret_nd rfl rfl rfl hz5 ⟨rfl, (HX.out.keep1 HK3.out hwb).keep1 hk5 hwz⟩
theorem ndOk_head {W : World} {h h' : Hd} {s : List Nd} {sv : Value} (hn : NdOk W (.mk h s) sv) : NdOk W (.mk h' s) sv := by unfold NdOk at hn ⊢; exact hn
def RetOk (w : World) (n : Nd) (r : Ending) (w' : World) : Prop := ∃ sv, r = .returned (nodeV n.h sv) ∧ NdOk w' n sv ∧ Ext w w'
set_option maxRecDepth 100000 in
set_option maxHeartbeats 4000000 in
theorem rseq22_any (ns : List Nd) (A : Option Addr) (n c : Nat) (w : World) (hn : NdOk w (.mk (hdV 0) ns) (.slice A n c)) (hl : ns.length ≤ 1000000) :
    Calls Tryz.prog 64 #[.slice A n c] w (RetOk w (seqN ns)) := by
  have hnl : n = ns.length := by
    obtain ⟨A1, c1, e1⟩ := hn.shape
    simp only [Value.slice.injEq, Nd.subs] at e1
    exact e1.2.1
  subst hnl
  have HN := Lib.hid hn
  clear hn
  go_enter Tryz.func64, Tryz.ntmps64
  go_upto_region 1 with (refine wpl_allocNd rfl rfl ?_; intro z w2 hz hx2 ez sz)
  match ns, HN, hl with
  | [], HN, hl =>
    simp only [List.length_nil] at *
    clear HN
    go_wp2_with (refine wpl_storeNd rfl _ _ rfl rfl z (hdV 1) _ (.slice none 0 0) _ rfl (node_lit _ _ _ _ _ _) (isSl_mk _ _ _) hz ?_; intro w5 hz5 hk5)
    exact ret_nd rfl rfl rfl hz5 ⟨_, rfl, (NdNew.nil 0 _ _ _ _).ok, hx2.keep1 hk5 ez⟩
  | [x], HN, hl =>
    obtain ⟨g0, o0, sv, rfl, hat, hok⟩ := HN.out.get 0 (by simp)
    simp only [List.getElem_cons_zero, Nat.zero_mul, Nat.add_zero] at hat hok
    have HOK := Lib.hid hok
    have hsl := hok.sl
    replace hat : NdAt w2 g0 o0 x.h sv := NdAt.ext (fun i hi => hat i hi) hx2
    simp only [List.length_cons, List.length_nil] at *
    clear HN hok
    go_wp2_with (first
      | (refine wpl_loadNd rfl _ rfl g0 o0 x.h sv rfl hat ?_)
      | (refine wpl_storeNd rfl _ _ rfl rfl z x.h _ sv _ rfl rfl hsl hz ?_; intro w5 hz5 hk5))
    have hx5 := hx2.keep1 hk5 ez
    exact ret_nd rfl rfl rfl hz5 ⟨sv, rfl, NdOk.ext hx5 _ _ HOK.out, hx5⟩
  | x :: y :: r, HN, hl =>
    have d0 : 2 ≤ (x :: y :: r).length := by simp
    have hseq : seqN (x :: y :: r) = .mk (hdV 5) (x :: y :: r) := rfl
    have HQ := Lib.hid hseq
    clear hseq
    obtain ⟨L, hL⟩ : ∃ L, L = (x :: y :: r).length := ⟨_, rfl⟩
    rw [← hL] at d0 HN ⊢
    clear hL
    generalize x :: y :: r = ns at *
    have d1 : ((L : Int) == 0) = false := by rw [beq_eq_false_iff_ne]; omega
    have d2 : ((L : Int) == 1) = false := by rw [beq_eq_false_iff_ne]; omega
    have d3 : ¬ L = 0 := by omega
    have d4 : ¬ L = 1 := by omega
    go_wp2_with (refine wpl_storeNd rfl _ _ rfl rfl z (hdV 5) _ (.slice A L c) _ rfl (node_lit _ _ _ _ _ _) (isSl_mk _ _ _) hz ?_; intro w5 hz5 hk5)
    have hx5 := hx2.keep1 hk5 ez
    exact ret_nd rfl rfl rfl hz5 ⟨_, by rw [HQ.out]; rfl, by rw [HQ.out]; exact NdOk.ext hx5 _ _ (ndOk_head HN.out), hx5⟩

end Go.Proofs.YtgfknlkpdiejgaaGreatDoor

namespace Go.Proofs.YtgfknlkpdiejgaaGreatDoor
open Go Go.RowKit

theorem trn_form : ∀ t : Nd, formB t = true → formB (trnN t) = true := Nd.ind fun h subs ih hf => by
  have hcase := form_cases hf
  have hsub := form_sub hf
  rw [formB, Bool.and_eq_true] at hf
  rw [trnN_eq, formB, Bool.and_eq_true]
  constructor
  · have e : formedB (trnH h) (trnA h subs).length = formedB h subs.length := by
      rw [trnA_len]
      unfold formedB trnH
      simp only
      by_cases k3 : h.kind = 3
      · simp [k3, plainB]
      · by_cases k4 : h.kind = 4
        · simp [k4, plainB]
        · simp [k3, k4, plainB]
    rw [e]; exact hf.1
  · have hm : ∀ t ∈ trnA h subs, formB t = true := fun t ht => by
      unfold trnA at ht
      have h2 : t ∈ trnL subs := by split at ht <;> simpa using ht
      rw [trnL_map] at h2
      obtain ⟨t0, h3, rfl⟩ := List.mem_map.1 h2
      exact ih t0 h3 (hsub t0 h3)
    exact formL_of hm
theorem trn_small : ∀ t : Nd, smallN t → smallN (trnN t) := Nd.ind fun h subs ih hsm => by
  rw [trnN_eq]
  refine ⟨by rw [trnA_len]; exact hsm.1, smallL_of fun t ht => ?_⟩
  unfold trnA at ht
  have h2 : t ∈ trnL subs := by split at ht <;> simpa using ht
  rw [trnL_map] at h2
  obtain ⟨t0, h3, rfl⟩ := List.mem_map.1 h2
  exact ih t0 h3 (smallL_mem hsm.2 t0 h3)
theorem wpl_allocSc {ops : Array Oper} {rest : List Oper} {o : Oper} {a : Act} {w : World} {Q : Exit → Act → World → Prop} (hgd : o.guard = none) (ho : o.op = .alloc 35)
    (hK : ∀ g w1, Blk w1 g 35 #[.string ⟨#[]⟩, .int .i64 0, .int .i64 0, .bool false] → Ext w w1 → w.heap.size ≤ g → wpList Tryz.prog ops Q rest (a.put o.dst (.pointer (some ⟨g, 0, none⟩))) w1) : wpList Tryz.prog ops Q (o :: rest) a w :=
  wpList_plain hgd fun _ hKK => by
    have hr : (execOp a.eval o).run Tryz.prog w = .ok (.value (.pointer (some ⟨w.heap.size, 0, none⟩))) (w.alloc (.cells #[.string ⟨#[]⟩, .int .i64 0, .int .i64 0, .bool false] 35)) := by
      unfold execOp
      rw [ho]
      simp [Instr.alloc, newVar, newRow, Value.cells]
    unfold Oper.wp
    rw [hr]
    exact hKK _ _ (hK _ _ (Blk.new w _ _) ((Ext.refl w).alloc _) (Nat.le_refl _))
theorem info_sc4 : (Tryz.prog.info? 35).map (·.size) = some 4 := by kernel_rfl
theorem wpl_storeSc {ops : Array Oper} {rest : List Oper} {o : Oper} {a : Act} {w : World} {Q : Exit → Act → World → Prop} (hgd : o.guard = none) (x y : Operand) (ho : o.op = .store 35 x y) (hd : o.dst = none) (g : Nat) (s s' : ByteArray) (c e c' e' : Int) (tn tn' : Bool) (hx : a.eval x = .pointer (some ⟨g, 0, none⟩)) (hy : a.eval y = .agg #[.string s, .int .i64 c, .int .i64 e, .bool tn]) (hB : Blk w g 35 #[.string s', .int .i64 c', .int .i64 e', .bool tn'])
    (hK : ∀ w1, Blk w1 g 35 #[.string s, .int .i64 c, .int .i64 e, .bool tn] → Keeps (· = g) w w1 → wpList Tryz.prog ops Q rest a w1) : wpList Tryz.prog ops Q (o :: rest) a w := by
  have hpa : a.put o.dst undef = a := by rw [hd]; rfl
  rw [← hpa] at hK
  refine wpList_store_row hgd _ x y ho g #[.string s, .int .i64 c, .int .i64 e, .bool tn] hx hy _ #[.string s', .int .i64 c', .int .i64 e', .bool tn'] hB info_sc4 rfl (by simp [Value.oneCell']) (hK _ (setRow_heap w g _ _ _ _ hB) ⟨rfl, rfl, rfl, by simp, fun k _ hk => setRow_other w g k _ hk⟩)
section
variable {s : ByteArray} {c e : Int}
set_option maxRecDepth 100000 in
set_option maxHeartbeats 16000000 in
theorem rback_any (t : Nd) (svn : Value) (b : Nat) (w : World) (hs : s.size ≤ 1000000) (hb0 : b ≤ s.size) (hf : formB t = true) (hsm : smallN t) (hn : NdOk w t svn) :
    Calls Tryz.prog 82 #[nodeV t.h svn, srV s c e false, .int .i64 b] w fun r w' => ∃ v, r = .returned v ∧ OwnBl w' w.heap.size v (s.size + 1) (img (dirR true (tkN (lfR s c e false) t)) (oneP b)) ∧ Ext w w' := by
  have HON : Hid (∀ W, Calls Tryz.prog 61 #[.agg #[.string s, .int .i64 c, .int .i64 e, .bool true], .int .i64 ((s.size : Int) - b)] W fun r w' => ∃ v, r = .returned v ∧ OwnBl w' W.heap.size v (s.size + 1) (oneP (s.size - b)) ∧ Ext W w') := Lib.hid (fun W => by
    rw [show ((s.size : Int) - b) = ((s.size - b : Nat) : Int) by omega]
    exact rOnly_any (s := s) (c := c) (e := e) (t := true) (s.size - b) W hs (by omega))
  have HTN : Hid (∀ W, Ext w W → Calls Tryz.prog 92 #[.agg #[.int .i64 t.h.kind, .int .u64 (wd t.h.set 0 : Int), .int .u64 (wd t.h.set 1 : Int), .int .u64 (wd t.h.set 2 : Int), .int .u64 (wd t.h.set 3 : Int), svn, .int .i64 t.h.num, .int .i64 t.h.min, .int .i64 t.h.max, .bool t.h.bare]] W (RetB W (trnN t))) := Lib.hid (fun W hW => rturn_any t svn W (NdOk.ext hW _ _ hn) hsm)
  have HOV : Hid (∀ W v sv, NdOk W (trnN t) sv → RdBl W v (s.size + 1) (oneP (s.size - b)) → Calls Tryz.prog 60 #[nodeV (trnN t).h sv, .agg #[.string s, .int .i64 c, .int .i64 e, .bool true], v] W (OverR s W (img (tkN (lfR s c e true) (trnN t)) (oneP (s.size - b))))) := Lib.hid (fun W v sv hok hr => over_any hs (trnN t) (trn_small t hsm) sv v (oneP (s.size - b)) W (trn_form t hf) hok hr (PlN.one (by omega)))
  have HQQ : Hid (∀ i, i ≤ s.size → img (tkN (lfR s c e true) (trnN t)) (oneP (s.size - b)) (s.size - i) = img (dirR true (tkN (lfR s c e false) t)) (oneP b) i) := Lib.hid (fun i hi => by
    rw [Bool.eq_iff_iff, img_one, img_one, tk_turn s c e t (fun hk => by have := form_cases (h := t.h) (subs := t.subs) (by cases t; exact hf); omega) hf]
    rw [show (s.size : Int) - ((s.size - i : Nat) : Int) = (i : Int) by omega, show (s.size : Int) - ((s.size - b : Nat) : Int) = (b : Int) by omega]
    exact Iff.rfl)
  obtain ⟨A0, c0, hsv⟩ := hn.shape
  obtain ⟨tg, htg⟩ : ∃ tg, tg = img (dirR true (tkN (lfR s c e false) t)) (oneP b) := ⟨_, rfl⟩
  rw [← htg] at HQQ ⊢
  obtain ⟨pq, hpq⟩ : ∃ pq, pq = img (tkN (lfR s c e true) (trnN t)) (oneP (s.size - b)) := ⟨_, rfl⟩
  rw [← hpq] at HQQ HOV
  generalize trnN t = tt at *
  generalize t.subs.length = nl at *
  subst hsv
  generalize t.h = h at *
  unfold srV OverR at *
  have hmk := Lib.hid (fun W => made_bs (s.size + 1) (by omega) W)
  clear hn hf hsm htg hpq
  go_enter Tryz.func82, Tryz.ntmps82
  go_upto_region 1 with (refine wpl_boxNd rfl _ rfl h _ rfl ?_; intro z w1 hb hx1 ez sz)
  have hV := Blk.new w1 35 #[.string s, .int .i64 c, .int .i64 e, .bool false]
  have hx2 := hx1.alloc (.cells #[.string s, .int .i64 c, .int .i64 e, .bool false] 35)
  replace hb := hb.ext ((Ext.refl w1).alloc (.cells #[.string s, .int .i64 c, .int .i64 e, .bool false] 35))
  generalize w1.alloc (.cells #[.string s, .int .i64 c, .int .i64 e, .bool false] 35) = w2 at *
  generalize w1.heap.size = gu at *
  have v0 : w2.cell? ⟨gu, 0, none⟩ = some (.string s) := hV.cell 0
  have v1 : w2.cell? ⟨gu, 1, none⟩ = some (.int .i64 c) := hV.cell 1
  have v2 : w2.cell? ⟨gu, 2, none⟩ = some (.int .i64 e) := hV.cell 2
  have v3 : w2.cell? ⟨gu, 3, none⟩ = some (.bool false) := hV.cell 3
  have HX2 := Lib.hid hx2
  have HB2 := Lib.hid hb
  have hguz : gu < w2.heap.size := hV.lt
  clear hb hV hx1 ez sz hx2
  go_upto_region 3 with (first
    | (refine wpl_allocSc rfl rfl ?_; intro gy w3 hgy hx3 ey)
    | (refine wpl_storeSc rfl _ _ rfl rfl gy s ⟨#[]⟩ c e 0 0 false false rfl rfl hgy ?_; intro w4 hg4 hk4))
  try simp only [Act.put, List.setIfInBounds_toArray, List.set_cons_zero, List.set_cons_succ]
  have hx24 := hx3.keep1 hk4 ey
  replace v3 := hx24.cell v3
  have y3 : w4.cell? ⟨gy, 3, none⟩ = some (.bool false) := hg4.cell 3
  have fy3 := hg4.frozen 3
  have HX24 := Lib.hid hx24
  have HG4 := Lib.hid hg4
  have hwg : w2.heap.size ≤ gy := ey
  clear hx3 hk4 hgy ey hx24 hg4 v0 v1 v2
  go_upto_region 4 with fail
  have hB5 : Blk (w4.setCell ⟨gy, 3, none⟩ (.bool true)) gy 35 #[.string s, .int .i64 c, .int .i64 e, .bool true] := HG4.out.set 3 (.bool true)
  have hk5 : Keeps (· = gy) w4 (w4.setCell ⟨gy, 3, none⟩ (.bool true)) := (Keeps.refl (· = gy) w4).setCell (p := ⟨gy, 3, none⟩) (.inr rfl) _
  generalize w4.setCell ⟨gy, 3, none⟩ (.bool true) = w5 at *
  have hx25 := HX24.out.keep1 hk5 hwg
  have HX25 := Lib.hid hx25
  have HX5 := Lib.hid (HX2.out.trans hx25)
  have KS := Lib.hid (fun w' (hw' : Ext w5 w') => (by
    have q1 := (HB2.out.ext (HX25.out.trans hw')).nd
    have q2 := hB5.ext hw'
    exact ⟨⟨q1 0 (by decide), q1 1 (by decide), q1 2 (by decide), q1 3 (by decide), q1 4 (by decide), q1 5 (by decide), q1 6 (by decide), q1 7 (by decide), q1 8 (by decide), q1 9 (by decide)⟩, ⟨q2.cell 0, q2.cell 1, q2.cell 2, q2.cell 3⟩⟩ : (w'.cell? ⟨z, 0, none⟩ = some (.int .i64 h.kind) ∧ w'.cell? ⟨z, 1, none⟩ = some (.int .u64 (wd h.set 0 : Int)) ∧ w'.cell? ⟨z, 2, none⟩ = some (.int .u64 (wd h.set 1 : Int)) ∧ w'.cell? ⟨z, 3, none⟩ = some (.int .u64 (wd h.set 2 : Int)) ∧ w'.cell? ⟨z, 4, none⟩ = some (.int .u64 (wd h.set 3 : Int)) ∧ w'.cell? ⟨z, 5, none⟩ = some (.slice A0 nl c0) ∧ w'.cell? ⟨z, 6, none⟩ = some (.int .i64 h.num) ∧ w'.cell? ⟨z, 7, none⟩ = some (.int .i64 h.min) ∧ w'.cell? ⟨z, 8, none⟩ = some (.int .i64 h.max) ∧ w'.cell? ⟨z, 9, none⟩ = some (.bool h.bare)) ∧ (w'.cell? ⟨gy, 0, none⟩ = some (.string s) ∧ w'.cell? ⟨gy, 1, none⟩ = some (.int .i64 c) ∧ w'.cell? ⟨gy, 2, none⟩ = some (.int .i64 e) ∧ w'.cell? ⟨gy, 3, none⟩ = some (.bool true))))
  have q0 : IntKind.i64.wrap ((s.size : Int) - b) = (s.size : Int) - b := by rw [IntKind.wrap_i64]; omega
  clear v3 y3 fy3 hk5 hx25 hB5
  go_region_held3 (fun w' => (w'.cell? ⟨z, 0, none⟩ = some (.int .i64 h.kind) ∧ w'.cell? ⟨z, 1, none⟩ = some (.int .u64 (wd h.set 0 : Int)) ∧ w'.cell? ⟨z, 2, none⟩ = some (.int .u64 (wd h.set 1 : Int)) ∧ w'.cell? ⟨z, 3, none⟩ = some (.int .u64 (wd h.set 2 : Int)) ∧ w'.cell? ⟨z, 4, none⟩ = some (.int .u64 (wd h.set 3 : Int)) ∧ w'.cell? ⟨z, 5, none⟩ = some (.slice A0 nl c0) ∧ w'.cell? ⟨z, 6, none⟩ = some (.int .i64 h.num) ∧ w'.cell? ⟨z, 7, none⟩ = some (.int .i64 h.min) ∧ w'.cell? ⟨z, 8, none⟩ = some (.int .i64 h.max) ∧ w'.cell? ⟨z, 9, none⟩ = some (.bool h.bare)) ∧ (w'.cell? ⟨gy, 0, none⟩ = some (.string s) ∧ w'.cell? ⟨gy, 1, none⟩ = some (.int .i64 c) ∧ w'.cell? ⟨gy, 2, none⟩ = some (.int .i64 e) ∧ w'.cell? ⟨gy, 3, none⟩ = some (.bool true)))
    ((first | exact KS.out _ (Ext.refl _).drew | exact KS.out _ hX8 | exact KS.out _ hX7 | exact KS.out _ hX6))
    (first
      | (go_at_call 92; refine (HTN.out _ (HX5.out.trans (Ext.refl w5).drewr)).mono ?_; rintro e w6 ⟨sv6, rfl, hn6, hx6⟩; have hX6 : Ext w5 w6 := (Ext.refl w5).drewr.trans hx6)
      | (go_at_call 61; refine (HON.out _).mono ?_; rintro e w7 ⟨v7, rfl, ho7, hx7⟩; have hX7 : Ext w5 w7 := hX6.trans hx7; obtain ⟨g7, c7, cur7, hv7, _⟩ := own_bools ho7 (Nat.succ_pos _); subst hv7)
      | (go_at_call 60; refine (HOV.out _ _ sv6 (NdOk.ext hx7 _ _ hn6.ok) (RdBl.of_own ho7)).mono ?_; rintro e w8 ⟨v8, rfl, hr8, hx8⟩; have hX8 : Ext w5 w8 := hX7.trans hx8; obtain ⟨A8, c8, hv8, _⟩ := hr8.shape; subst hv8))
  have HX8 := Lib.hid (HX5.out.trans hX8)
  have HR8 := Lib.hid hr8
  have hmk8 := hmk.out
  clear KS HTN HON HOV hX6 hX7 hX8 hx6 hx7 hx8 hn6 ho7 hr8 hmk
  simp only [Int.natCast_add, Int.cast_ofNat_Int] at hmk8
  go_upto_region 6 with fail
  have ho := own_madeB w8 (s.size + 1) noP (by omega)
  have hx9 : Ext w8 (w8.alloc (.cells (bsC (s.size + 1) noP).toArray 4)) := (Ext.refl w8).alloc _
  generalize w8.alloc (.cells (bsC (s.size + 1) noP).toArray 4) = w9 at *
  have HX9 := Lib.hid hx9
  have HO := Lib.hid ho
  clear hmk8 hx9 ho
  generalize hfb : w8.heap.size = fb at *
  have HFB := Lib.hid hfb
  clear hfb
  have hn0 : 0 < s.size + 1 := by omega
  have HSZ : Hid (s.size ≤ 1000000) := Lib.hid hs
  obtain ⟨n, hn⟩ : ∃ n, n = s.size + 1 := ⟨_, rfl⟩
  have HN := Lib.hid hn
  rw [← hn] at HR8 HO hn0
  go_upto_region 7 with fail
  try rw [← hn]
  clear hn
  go_loopw [11] (fun iv wr => ∃ k : Nat, k ≤ n ∧ iv = .int .i64 k ∧ OwnBl wr fb (.slice (some ⟨fb, 0, none⟩) n n) n (mixBl k tg noP) ∧ Keeps (· = fb) w9 wr) (fun iv _ => n - (intOf iv).toNat)
  case atStart => exact ⟨0, Nat.zero_le _, rfl, by show Own1 _ _ _ _ (bsC n (mixBl 0 _ _)); rw [mixBl_zero]; exact HO.out, Keeps.refl _ _⟩
  case round =>
    obtain ⟨k, hk, rfl, ho, hK⟩ := hrel
    obtain ⟨w10, hw10⟩ : ∃ w, w = wr := ⟨_, rfl⟩
    subst hw10
    have hxx : Ext w8 w10 := HX9.out.keep1 hK (by have := HFB.out; omega)
    have HXX := Lib.hid (HX8.out.trans hxx)
    have HKK := Lib.hid hK
    have HOO := Lib.hid ho
    by_cases hlt : k < n
    · have hks : k ≤ s.size := by have := HN.out; omega
      have q9 : (k : Int) ≤ (s.size : Int) := by omega
      obtain ⟨B8, d8, hb8, hcc⟩ := HR8.out.ext hxx
      injection hb8 with e1 e2 e3
      obtain ⟨g8, o8, e4, cl⟩ := hcc (s.size - k) (by have := HN.out; omega)
      rw [← e1] at e4
      clear e1 e2 e3 hcc
      subst e4
      rw [HQQ.out k hks] at cl
      have q8 : IntKind.i64.wrap ((s.size : Int) - k) = ((s.size - k : Nat) : Int) := by have := HSZ.out; rw [IntKind.wrap_i64]; omega
      have q7 : ((s.size - k : Nat) : Int) < (n : Int) := by have := HN.out; omega
      have q6 : (k : Int) < (n : Int) := by omega
      obtain ⟨gf, cf, curf, hsf, _, hbf, _, hcf⟩ := own_bools ho hn0
      injection hsf with e1 _ e3
      injection e1 with e1
      injection e1 with e1
      subst e1
      clear e3
      have c3 := hcf k hlt
      have f3 := hbf.frozen k
      have HE : Hid (mixBl (k + 1) tg noP k = tg k) := Lib.hid (mixBl_at _ _ _)
      have HSK : Hid (s.size - k < n) := Lib.hid (by have := HN.out; omega)
      clear ho hK hcf hbf hxx
      generalize s.size - k = sk at *
      go_wp2
      go_roundw
      case rel =>
        have hput := OwnBl.put (q := mixBl (k + 1) tg noP) HOO.out k (fun j hj => mixBl_succ hj)
        rw [HE.out] at hput
        exact ⟨k + 1, hlt, by go_num, hput, HKK.out.trans ((Keeps.refl (· = fb) w10).setCell (p := ⟨fb, k, none⟩) (.inr rfl) _) (fun _ _ h => h)⟩
      case measure => simp [intOf]; omega
    · have q9 : ¬ (k : Int) ≤ (s.size : Int) := by have := HN.out; omega
      obtain rfl : k = n := by omega
      have hf' : OwnBl w10 fb (.slice (some ⟨fb, 0, none⟩) k k) k tg := by
        show Own1 _ _ _ _ (bsC _ _)
        rw [← mixBl_all k tg noP]
        exact ho
      have HF' := Lib.hid (Own1.mono hf' (show w.heap.size ≤ fb by have := HX8.out.size; have := HFB.out; omega))
      clear ho hK hf' hxx
      go_wp2
      go_ret
      exact ⟨_, rfl, by rw [← HN.out]; exact HF'.out, HXX.out⟩

end

end Go.Proofs.YtgfknlkpdiejgaaGreatDoor

namespace Go.Proofs.YtgfknlkpdiejgaaGreatDoor
open Go Go.RowKit

section
variable {s : ByteArray} {c e : Int}
set_option maxRecDepth 100000 in
set_option maxHeartbeats 16000000 in
theorem rcut_any (t u : Nd) (svt svu : Value) (a b least : Nat) (w : World) (hs : s.size ≤ 1000000) (hal : a ≤ s.size) (hb0 : b ≤ s.size) (hft : formB t = true) (hst : smallN t) (hnt : NdOk w t svt) (hfu : formB u = true) (hsu : smallN u) (hnu : NdOk w u svu)
    (hex : ∃ k : Int, (least : Int) ≤ k ∧ tkN (lfR s c e false) t a k ∧ tkN (lfR s c e false) u k b) :
    Calls Tryz.prog 63 #[nodeV t.h svt, nodeV u.h svu, srV s c e false, .int .i64 a, .int .i64 b, .int .i64 least] w fun r w' => r = .returned (.int .i64 (cutK (tkN (lfR s c e false) t) (tkN (lfR s c e false) u) least a b : Nat)) ∧ Ext w w' := by
  have HON : Hid (∀ W, Calls Tryz.prog 61 #[.agg #[.string s, .int .i64 c, .int .i64 e, .bool false], .int .i64 a] W fun r w' => ∃ v, r = .returned v ∧ OwnBl w' W.heap.size v (s.size + 1) (oneP a) ∧ Ext W w') := Lib.hid (fun W => rOnly_any (s := s) (c := c) (e := e) (t := false) a W hs hal)
  have HOV : Hid (∀ W v, Ext w W → RdBl W v (s.size + 1) (oneP a) → Calls Tryz.prog 60 #[.agg #[.int .i64 t.h.kind, .int .u64 (wd t.h.set 0 : Int), .int .u64 (wd t.h.set 1 : Int), .int .u64 (wd t.h.set 2 : Int), .int .u64 (wd t.h.set 3 : Int), svt, .int .i64 t.h.num, .int .i64 t.h.min, .int .i64 t.h.max, .bool t.h.bare], .agg #[.string s, .int .i64 c, .int .i64 e, .bool false], v] W (OverR s W (img (tkN (lfR s c e false) t) (oneP a)))) := Lib.hid (fun W v hW hr => over_any hs t hst svt v (oneP a) W hft (NdOk.ext hW _ _ hnt) hr (PlN.one hal))
  have HBK : Hid (∀ W, Ext w W → Calls Tryz.prog 82 #[nodeV u.h svu, .agg #[.string s, .int .i64 c, .int .i64 e, .bool false], .int .i64 b] W fun r w' => ∃ v, r = .returned v ∧ OwnBl w' W.heap.size v (s.size + 1) (img (dirR true (tkN (lfR s c e false) u)) (oneP b)) ∧ Ext W w') := Lib.hid (fun W hW => rback_any u svu b W hs hb0 hfu hsu (NdOk.ext hW _ _ hnu))
  have hMu := tkN_mon (lfR_ok s c e false) u
  obtain ⟨kc, hkc⟩ : ∃ kc, kc = cutK (tkN (lfR s c e false) t) (tkN (lfR s c e false) u) least a b := ⟨_, rfl⟩
  have hsp := cutK_spec (R := tkN (lfR s c e false) t) hMu hex
  rw [← hkc] at hsp ⊢
  obtain ⟨s1, s2, s3, s4, s5⟩ := hsp
  have HP : Hid (img (tkN (lfR s c e false) t) (oneP a) kc = true ∧ img (dirR true (tkN (lfR s c e false) u)) (oneP b) kc = true) := Lib.hid ⟨img_one.2 s2, img_one.2 s3⟩
  have HM : Hid (∀ k : Nat, kc < k → k ≤ b → img (tkN (lfR s c e false) t) (oneP a) k = true → img (dirR true (tkN (lfR s c e false) u)) (oneP b) k = false) := Lib.hid (fun k h1 h2 h3 => by
    rw [Bool.eq_false_iff]
    intro h4
    have h6 : tkN (lfR s c e false) u k b := (img_one (R := dirR true (tkN (lfR s c e false) u))).1 h4
    have := s5 k (by omega) (img_one.1 h3) h6
    omega)
  generalize img (tkN (lfR s c e false) t) (oneP a) = P at *
  generalize img (dirR true (tkN (lfR s c e false) u)) (oneP b) = Qp at *
  obtain ⟨A0, c0, hsv⟩ := hnt.shape
  generalize t.subs.length = nl at *
  subst hsv
  generalize t.h = h at *
  generalize u.h = hu at *
  have hb7 : b ≤ 1000000 := by omega
  unfold srV OverR at *
  clear hnt hnu hft hfu hst hsu hex hkc s2 s3 s5 hMu
  go_enter Tryz.func63, Tryz.ntmps63
  go_upto_region 1 with (first
    | (have := hbt; refine wpl_boxNd rfl _ rfl hu _ rfl ?_; intro zu w2 hbu hx2 ezu szu)
    | (refine wpl_boxNd rfl _ rfl h _ rfl ?_; intro z w1 hbt hx1 ez sz))
  have hV := Blk.new w2 35 #[.string s, .int .i64 c, .int .i64 e, .bool false]
  have hx3 := (hx1.trans hx2).alloc (.cells #[.string s, .int .i64 c, .int .i64 e, .bool false] 35)
  have hbt3 := (hbt.ext hx2).ext ((Ext.refl w2).alloc (.cells #[.string s, .int .i64 c, .int .i64 e, .bool false] 35))
  have hbu3 := hbu.ext ((Ext.refl w2).alloc (.cells #[.string s, .int .i64 c, .int .i64 e, .bool false] 35))
  generalize w2.alloc (.cells #[.string s, .int .i64 c, .int .i64 e, .bool false] 35) = w3 at *
  generalize w2.heap.size = gu at *
  have HX3 := Lib.hid hx3
  have HZU := Lib.hid (fun W (hW : Ext w3 W) => (hbu3.ext hW).nd)
  have KS := Lib.hid (fun w' (hw' : Ext w3 w') => (by
    have q1 := (hbt3.ext hw').nd
    have q2 := hV.ext hw'
    exact ⟨⟨q1 0 (by decide), q1 1 (by decide), q1 2 (by decide), q1 3 (by decide), q1 4 (by decide), q1 5 (by decide), q1 6 (by decide), q1 7 (by decide), q1 8 (by decide), q1 9 (by decide)⟩, ⟨q2.cell 0, q2.cell 1, q2.cell 2, q2.cell 3⟩⟩ : (w'.cell? ⟨z, 0, none⟩ = some (.int .i64 h.kind) ∧ w'.cell? ⟨z, 1, none⟩ = some (.int .u64 (wd h.set 0 : Int)) ∧ w'.cell? ⟨z, 2, none⟩ = some (.int .u64 (wd h.set 1 : Int)) ∧ w'.cell? ⟨z, 3, none⟩ = some (.int .u64 (wd h.set 2 : Int)) ∧ w'.cell? ⟨z, 4, none⟩ = some (.int .u64 (wd h.set 3 : Int)) ∧ w'.cell? ⟨z, 5, none⟩ = some (.slice A0 nl c0) ∧ w'.cell? ⟨z, 6, none⟩ = some (.int .i64 h.num) ∧ w'.cell? ⟨z, 7, none⟩ = some (.int .i64 h.min) ∧ w'.cell? ⟨z, 8, none⟩ = some (.int .i64 h.max) ∧ w'.cell? ⟨z, 9, none⟩ = some (.bool h.bare)) ∧ (w'.cell? ⟨gu, 0, none⟩ = some (.string s) ∧ w'.cell? ⟨gu, 1, none⟩ = some (.int .i64 c) ∧ w'.cell? ⟨gu, 2, none⟩ = some (.int .i64 e) ∧ w'.cell? ⟨gu, 3, none⟩ = some (.bool false))))
  clear hbt hx1 ez sz hbu hx2 ezu szu hV hx3 hbt3 hbu3
  go_region_held3 (fun w' => (w'.cell? ⟨z, 0, none⟩ = some (.int .i64 h.kind) ∧ w'.cell? ⟨z, 1, none⟩ = some (.int .u64 (wd h.set 0 : Int)) ∧ w'.cell? ⟨z, 2, none⟩ = some (.int .u64 (wd h.set 1 : Int)) ∧ w'.cell? ⟨z, 3, none⟩ = some (.int .u64 (wd h.set 2 : Int)) ∧ w'.cell? ⟨z, 4, none⟩ = some (.int .u64 (wd h.set 3 : Int)) ∧ w'.cell? ⟨z, 5, none⟩ = some (.slice A0 nl c0) ∧ w'.cell? ⟨z, 6, none⟩ = some (.int .i64 h.num) ∧ w'.cell? ⟨z, 7, none⟩ = some (.int .i64 h.min) ∧ w'.cell? ⟨z, 8, none⟩ = some (.int .i64 h.max) ∧ w'.cell? ⟨z, 9, none⟩ = some (.bool h.bare)) ∧ (w'.cell? ⟨gu, 0, none⟩ = some (.string s) ∧ w'.cell? ⟨gu, 1, none⟩ = some (.int .i64 c) ∧ w'.cell? ⟨gu, 2, none⟩ = some (.int .i64 e) ∧ w'.cell? ⟨gu, 3, none⟩ = some (.bool false)))
    ((first | exact KS.out _ (Ext.refl _).drew | exact KS.out _ hX5 | exact KS.out _ hX4))
    (first
      | (go_at_call 61; refine (HON.out _).mono ?_; rintro e w4 ⟨v4, rfl, ho4, hx4⟩; have hX4 : Ext w3 w4 := (Ext.refl w3).drewr.trans hx4; obtain ⟨g4, c4, cur4, hv4, _⟩ := own_bools ho4 (Nat.succ_pos _); subst hv4)
      | (go_at_call 60; refine (HOV.out _ _ (HX3.out.trans hX4) (RdBl.of_own ho4)).mono ?_; rintro e w5 ⟨v5, rfl, hr5, hx5⟩; have hX5 : Ext w3 w5 := hX4.trans hx5; obtain ⟨A5, c5, hv5, _⟩ := hr5.shape; subst hv5))
  have HX5 := Lib.hid (HX3.out.trans hX5)
  have HX35 := Lib.hid hX5
  have HR5 := Lib.hid hr5
  obtain ⟨_, u0, u1, u2, u3⟩ := KS.out _ hX5
  have HBK2 := Lib.hid (HBK.out w5 HX5.out)
  clear KS HON HOV HBK hX4 hX5 hx4 hx5 ho4 hr5
  go_upto_region 4 with (first
    | (refine wpl_loadNd rfl _ rfl zu 0 hu _ rfl (HZU.out _ HX35.out) ?_)
    | (go_at_call 82; refine HBK2.out.mono ?_; rintro e w6 ⟨v6, rfl, ho6, hx6⟩; obtain ⟨A6, c6, hv6, _⟩ := (RdBl.of_own ho6).shape; subst hv6))
  have HX6 := Lib.hid (HX5.out.trans hx6)
  have HR6 := Lib.hid (HR5.out.ext hx6)
  have HQ6 := Lib.hid (RdBl.of_own ho6)
  clear HR5 HBK2 HZU HX35 hx6 ho6 u0 u1 u2 u3
  go_loopw [15] (fun iv wr => ∃ k : Nat, k ≤ b ∧ iv = .int .i64 k ∧ w6 = wr ∧ Hid (kc ≤ k)) (fun iv _ => (intOf iv + 1).toNat)
  case atStart => exact ⟨b, Nat.le_refl _, rfl, rfl, Lib.hid s4⟩
  case round =>
    obtain ⟨k, hk, rfl, rfl, HKC⟩ := hrel
    have hck := HKC.out
    have q9 : (least : Int) ≤ (k : Int) := by omega
    obtain ⟨B5, d5, hb5, hcc⟩ := HR6.out
    injection hb5 with e1 e2 e3
    obtain ⟨g5, o5, e4, cl⟩ := hcc k (by omega)
    rw [← e1] at e4
    clear e1 e2 e3 hcc
    subst e4
    obtain ⟨B6, d6, hb6, hcc⟩ := HQ6.out
    injection hb6 with e1 e2 e3
    obtain ⟨g6, o6, e4, cq⟩ := hcc k (by omega)
    rw [← e1] at e4
    clear e1 e2 e3 hcc
    subst e4
    have q8 : (k : Int) < ((s.size + 1 : Nat) : Int) := by omega
    by_cases hkk : k = kc
    · have HF : Hid ((k : Int) = (kc : Int)) := Lib.hid (by omega)
      rw [hkk, HP.out.1] at cl
      rw [hkk, HP.out.2] at cq
      rw [← hkk] at cl cq
      clear hkk hck
      go_wp2
      go_ret
      exact ⟨by rw [← HF.out]; rfl, HX6.out⟩
    · have hkm : kc < k := by omega
      have hm := HM.out k hkm hk
      have q7 : IntKind.i64.wrap ((k : Int) - 1) = (k : Int) - 1 := by rw [IntKind.wrap_i64]; omega
      have e5 : ((k : Int) - 1) = ((k - 1 : Nat) : Int) := by omega
      have HE5 := Lib.hid e5
      have HKM : Hid (kc ≤ k - 1) := Lib.hid (by omega)
      cases hpk : P k with
      | false =>
        rw [hpk] at cl
        clear hm hpk hkk e5
        go_wp2
        go_roundw
        case rel => exact ⟨k - 1, by omega, by rw [← HE5.out], by simp, HKM⟩
        case measure => first | (simp [intOf]; done) | (simp [intOf]; omega)
      | true =>
        rw [hpk] at cl
        rw [hm hpk] at cq
        clear hm hpk hkk e5
        go_wp2
        go_roundw
        case rel => exact ⟨k - 1, by omega, by rw [← HE5.out], by simp, HKM⟩
        case measure => first | (simp [intOf]; done) | (simp [intOf]; omega)
end

end Go.Proofs.YtgfknlkpdiejgaaGreatDoor

namespace Go.Proofs.YtgfknlkpdiejgaaGreatDoor
open Go Go.RowKit

theorem info_psZ : (Tryz.prog.info? 83).map (fun i => (i.zero, i.size, i.bytes)) = some (some (.agg [Value.int .i64 0, Value.int .i64 0, Value.int .i64 0, Value.slice none 0 0].toArray), 4, 48) := by kernel_rfl

mutual
/-- The tree lies in memory, its lists in blocks of S. -/
def PsIn (W : World) (S : Nat → Prop) : Ps → Value → Prop
  | .mk _ subs, sv => ∃ A c, sv = .slice A subs.length c ∧ PssIn W S subs A 0
def PssIn (W : World) (S : Nat → Prop) : List Ps → Option Addr → Nat → Prop
  | [], _, _ => True
  | n :: r, A, k => (∃ g o sv, S g ∧ A = some ⟨g, o, none⟩ ∧ (∀ i, i < 4 → W.cell? ⟨g, o + k * 4 + i, none⟩ = (psC n.d sv)[i]?) ∧ PsIn W S n sv) ∧ PssIn W S r A (k + 1)
end
mutual
theorem PsIn.ok {W : World} {S : Nat → Prop} : ∀ {n : Ps} {sv : Value}, PsIn W S n sv → PsOk W n sv
  | .mk _ _, _, ⟨A, c, h1, h2⟩ => ⟨A, c, h1, PssIn.ok h2⟩
theorem PssIn.ok {W : World} {S : Nat → Prop} : ∀ {l : List Ps} {A : Option Addr} {k : Nat}, PssIn W S l A k → PssOk W l A k
  | [], _, _, _ => trivial
  | _ :: _, _, _, ⟨⟨g, o, sv, _, h1, h2, h3⟩, h4⟩ => ⟨⟨g, o, sv, h1, h2, h3.ok⟩, h4.ok⟩
end
mutual
theorem PsOk.in {W : World} : ∀ {n : Ps} {sv : Value}, PsOk W n sv → PsIn W (· < W.heap.size) n sv
  | .mk _ _, _, ⟨A, c, h1, h2⟩ => ⟨A, c, h1, PssOk.in h2⟩
theorem PssOk.in {W : World} : ∀ {l : List Ps} {A : Option Addr} {k : Nat}, PssOk W l A k → PssIn W (· < W.heap.size) l A k
  | [], _, _, _ => trivial
  | _ :: _, _, k, ⟨⟨g, o, sv, h1, h2, h3⟩, h4⟩ => ⟨⟨g, o, sv, World.block_lt_of_cell? W ⟨g, o + k * 4 + 0, none⟩ (h2 0 (by omega)), h1, h2, h3.in⟩, h4.in⟩
end
mutual
theorem PsIn.keep {W W' : World} {S S' : Nat → Prop} (hs : ∀ b, S b → SameAt W W' b ∧ S' b) : ∀ {n : Ps} {sv : Value}, PsIn W S n sv → PsIn W' S' n sv
  | .mk _ _, _, ⟨A, c, h1, h2⟩ => ⟨A, c, h1, PssIn.keep hs h2⟩
theorem PssIn.keep {W W' : World} {S S' : Nat → Prop} (hs : ∀ b, S b → SameAt W W' b ∧ S' b) : ∀ {l : List Ps} {A : Option Addr} {k : Nat}, PssIn W S l A k → PssIn W' S' l A k
  | [], _, _, _ => trivial
  | _ :: _, _, _, ⟨⟨g, o, sv, h0, h1, h2, h3⟩, h4⟩ => ⟨⟨g, o, sv, (hs g h0).2, h1, fun i hi => ((hs g h0).1.cell _).trans (h2 i hi), h3.keep hs⟩, h4.keep hs⟩
end
theorem PsIn.one {W : World} {S : Nat → Prop} {n : Ps} {sv : Value} {g : Nat} {t : TypeId} (h : PsIn W S n sv) (hg : Blk W g t (psA n.d sv)) (hs : S g) (hd : Pd) (c : Nat) : PsIn W S (.mk hd [n]) (.slice (some ⟨g, 0, none⟩) 1 c) :=
  ⟨_, c, rfl, ⟨g, 0, sv, hs, rfl, fun i _ => by simp only [Nat.zero_mul, Nat.zero_add]; rw [hg.cell, psA_get], h⟩, trivial⟩
theorem PsOk.far {W0 W : World} {n : Ps} {sv v : Value} (h : PsOk W0 n sv) (hx : Ext W0 W) (hv : ∀ i, v.ownBlock = some i → W0.heap.size ≤ i) : PsIn W (Off W v) n sv :=
  h.in.keep fun b hb => ⟨sameAt_of_block (Below.block hx b hb), Nat.lt_of_lt_of_le hb hx.size, fun e => by have := hv b e; omega⟩
theorem PsIn.off {W W' : World} {n : Ps} {sv v : Value} (h : PsIn W (Off W v) n sv) (hx : Ext W W') : PsIn W' (Off W' v) n sv :=
  h.keep fun b hb => ⟨sameAt_of_block (Below.block hx b hb.1), Nat.lt_of_lt_of_le hb.1 hx.size, hb.2⟩

/-- A list of trees under way: the trees may share memory, but none lies in the list's own block. -/
structure LstQ (W : World) (B : Nat) (v : Value) (l : List (Ps × Value)) : Prop where
  own : OwnR W B 83 4 v (l.map fun x => psC x.1.d x.2)
  kid : ∀ x ∈ l, PsIn W (Off W v) x.1 x.2
theorem LstQ.nil (W : World) (B : Nat) : LstQ W B (.slice none 0 0) [] := ⟨OwnR.nil _ _ _ _, (fun _ h => by cases h)⟩
theorem LstQ.ext {W W' : World} {B : Nat} {v : Value} {l : List (Ps × Value)} (h : LstQ W B v l) (hx : Ext W W') : LstQ W' B v l := ⟨h.own.ext hx, fun x hm => (h.kid x hm).off hx⟩
theorem LstQ.len {W : World} {B : Nat} {v : Value} {l : List (Ps × Value)} (h : LstQ W B v l) : ∃ A c, v = .slice A l.length c ∧ l.length ≤ c := by
  have := h.own.shape
  simpa using this
theorem LstQ.ownB {W : World} {B : Nat} {v : Value} {l : List (Ps × Value)} (h : LstQ W B v l) : ∀ i, v.ownBlock = some i → B ≤ i ∧ i < W.heap.size := h.own.own
theorem LstQ.snoc {W1 W2 : World} {B : Nat} {v v' : Value} {l : List (Ps × Value)} {n : Ps} {sv : Value} (h : LstQ W1 B v l) (hn : PsIn W1 (Off W1 v) n sv)
    (ho : OwnR W2 B 83 4 v' ((l.map fun x => psC x.1.d x.2) ++ [psC n.d sv])) (hg : W1.grownBy W2 v.ownBlock) (hat : v'.ownBlock = v.ownBlock ∨ v'.ownBlock = some W1.heap.size) : LstQ W2 B v' (l ++ [(n, sv)]) := by
  have hk : ∀ {m : Ps} {sm : Value}, PsIn W1 (Off W1 v) m sm → PsIn W2 (Off W2 v') m sm := fun hm => hm.keep fun b hb =>
    ⟨sameAt_of_block (hg.block b hb.1 (fun e => hb.2 e.symm)), Nat.lt_of_lt_of_le hb.1 hg.size, fun e => by
      rcases hat with h4 | h4
      · exact hb.2 (h4 ▸ e)
      · rw [h4] at e; injection e with e; have := hb.1; omega⟩
  refine ⟨by simpa using ho, fun x hm => ?_⟩
  rcases List.mem_append.1 hm with hm | hm
  · exact hk (h.kid x hm)
  · simp only [List.mem_singleton] at hm
    subst hm
    exact hk hn
theorem pssOk_of {W : World} {g o : Nat} : ∀ (l : List (Ps × Value)) (k : Nat), (∀ j x, l[j]? = some x → ∀ i, i < 4 → W.cell? ⟨g, o + (k + j) * 4 + i, none⟩ = (psC x.1.d x.2)[i]?) → (∀ x ∈ l, PsOk W x.1 x.2) → PssOk W (l.map (·.1)) (some ⟨g, o, none⟩) k
  | [], _, _, _ => trivial
  | x :: l, k, hc, hk => ⟨⟨g, o, x.2, rfl, fun i hi => hc 0 x rfl i hi, hk x (by simp)⟩, pssOk_of l (k + 1) (fun j y hj i hi => by
      rw [show k + 1 + j = k + (j + 1) by omega]
      exact hc (j + 1) y (by simpa using hj) i hi) (fun y hy => hk y (by simp [hy]))⟩
theorem LstQ.nds {W : World} {B : Nat} {v : Value} {l : List (Ps × Value)} (h : LstQ W B v l) (hd : Pd) : PsOk W (.mk hd (l.map (·.1))) v := by
  rcases h.own.slice with ⟨rfl, h0⟩ | ⟨g, cap, cur, rfl, _⟩
  · have : l = [] := by cases l with
      | nil => rfl
      | cons => simp at h0
    subst this
    exact ⟨none, 0, rfl, trivial⟩
  · refine ⟨some ⟨g, 0, none⟩, cap, by simp, pssOk_of l 0 (fun j x hj i hi => ?_) (fun x hm => (h.kid x hm).ok)⟩
    have := h.own.cell j (psC x.1.d x.2) (by simp [hj]) i hi
    simpa using this


/-- The tree lies in blocks from B on. -/
def PsB (B : Nat) (W : World) (n : Ps) (sv : Value) : Prop := PsIn W (fun b => B ≤ b ∧ b < W.heap.size) n sv
theorem PsB.ok {B : Nat} {W : World} {n : Ps} {sv : Value} (h : PsB B W n sv) : PsOk W n sv := PsIn.ok h
theorem PsB.keeps {B : Nat} {W W' : World} {F : Nat → Prop} {n : Ps} {sv : Value} (h : PsB B W n sv) (hk : Keeps F W W') (hF : ∀ b, B ≤ b → b < W.heap.size → ¬ F b) : PsB B W' n sv :=
  PsIn.keep (fun b hb => ⟨sameAt_of_block (hk.block b hb.2 (hF b hb.1 hb.2)), hb.1, Nat.lt_of_lt_of_le hb.2 hk.size⟩) h
theorem PsB.ext {B : Nat} {W W' : World} {n : Ps} {sv : Value} (h : PsB B W n sv) (hx : Ext W W') : PsB B W' n sv := h.keeps (F := fun _ => False) (Keeps.of_ext hx) (fun _ _ _ hf => hf)
theorem PsB.mono {B B' : Nat} {W : World} {n : Ps} {sv : Value} (h : PsB B W n sv) (hb : B' ≤ B) : PsB B' W n sv :=
  PsIn.keep (fun _ hx => ⟨rfl, Nat.le_trans hb hx.1, hx.2⟩) h
theorem PsB.keep1 {B : Nat} {w w1 : World} {g : Nat} {n : Ps} {sv : Value} (h : PsB B w n sv) (k : Keeps (· = g) w w1) (hg : g < B) : PsB B w1 n sv := h.keeps k (fun b hb _ e => by omega)
theorem PsB.nil (B : Nat) (W : World) (h : Pd) (A : Option Addr) (c : Nat) : PsB B W (.mk h []) (.slice A 0 c) := ⟨A, c, rfl, trivial⟩
theorem PsB.head {B : Nat} {W : World} {h h' : Pd} {s : List Ps} {sv : Value} (hn : PsB B W (.mk h s) sv) : PsB B W (.mk h' s) sv := hn
theorem PsB.one {B : Nat} {W : World} {n : Ps} {sv : Value} {g : Nat} {t : TypeId} (h : PsB B W n sv) (hg : Blk W g t (psA n.d sv)) (hB : B ≤ g) (hd : Pd) (c : Nat) : PsB B W (.mk hd [n]) (.slice (some ⟨g, 0, none⟩) 1 c) :=
  PsIn.one h hg ⟨hB, hg.lt⟩ hd c
/-- What a call that makes such a tree answers. -/
def RetPsB (w : World) (n : Ps) (r : Ending) (w' : World) : Prop := ∃ sv, r = .returned (psV n.d sv) ∧ PsB w.heap.size w' n sv ∧ Ext w w'

/-- A list of trees under way, all in blocks from B on, none in the list's own block. -/
structure LstPs (W : World) (B C : Nat) (v : Value) (l : List (Ps × Value)) : Prop where
  own : OwnR W B 83 4 v (l.map fun x => psC x.1.d x.2)
  kid : ∀ x ∈ l, PsIn W (fun b => C ≤ b ∧ Off W v b) x.1 x.2
theorem LstPs.nil (W : World) (B C : Nat) : LstPs W B C (.slice none 0 0) [] := ⟨OwnR.nil _ _ _ _, (fun _ h => by cases h)⟩
theorem LstPs.ext {W W' : World} {B C : Nat} {v : Value} {l : List (Ps × Value)} (h : LstPs W B C v l) (hx : Ext W W') : LstPs W' B C v l :=
  ⟨h.own.ext hx, fun x hm => PsIn.keep (fun b hb => ⟨sameAt_of_block (Below.block hx b hb.2.1), hb.1, Nat.lt_of_lt_of_le hb.2.1 hx.size, hb.2.2⟩) (h.kid x hm)⟩
theorem LstPs.keep1 {W W' : World} {B C g : Nat} {v : Value} {l : List (Ps × Value)} (h : LstPs W B C v l) (hk : Keeps (· = g) W W') (hgB : g < B) (hg : g < C) : LstPs W' B C v l :=
  ⟨h.own.keeps hk (fun i hi e => by have := (h.own.own i hi).1; omega), fun x hm => PsIn.keep (fun b hb => ⟨sameAt_of_block (hk.block b hb.2.1 (fun e => by omega)), hb.1, Nat.lt_of_lt_of_le hb.2.1 hk.size, hb.2.2⟩) (h.kid x hm)⟩
theorem LstPs.len {W : World} {B C : Nat} {v : Value} {l : List (Ps × Value)} (h : LstPs W B C v l) : ∃ A c, v = .slice A l.length c ∧ l.length ≤ c := by
  have := h.own.shape
  simpa using this
theorem LstPs.ownB {W : World} {B C : Nat} {v : Value} {l : List (Ps × Value)} (h : LstPs W B C v l) : ∀ i, v.ownBlock = some i → B ≤ i ∧ i < W.heap.size := h.own.own
theorem LstPs.in_ {W : World} {B C : Nat} {v : Value} {l : List (Ps × Value)} (h : LstPs W B C v l) : LstQ W B v l := ⟨h.own, fun x hm => PsIn.keep (fun _ hb => ⟨rfl, hb.2⟩) (h.kid x hm)⟩
theorem LstPs.snoc {W1 W2 : World} {B C : Nat} {v v' : Value} {l : List (Ps × Value)} {n : Ps} {sv : Value} (h : LstPs W1 B C v l) (hn : PsIn W1 (fun b => C ≤ b ∧ Off W1 v b) n sv)
    (ho : OwnR W2 B 83 4 v' ((l.map fun x => psC x.1.d x.2) ++ [psC n.d sv])) (hg : W1.grownBy W2 v.ownBlock) (hat : v'.ownBlock = v.ownBlock ∨ v'.ownBlock = some W1.heap.size) : LstPs W2 B C v' (l ++ [(n, sv)]) := by
  have hk : ∀ {m : Ps} {sm : Value}, PsIn W1 (fun b => C ≤ b ∧ Off W1 v b) m sm → PsIn W2 (fun b => C ≤ b ∧ Off W2 v' b) m sm := fun hm => hm.keep fun b hb =>
    ⟨sameAt_of_block (hg.block b hb.2.1 (fun e => hb.2.2 e.symm)), hb.1, Nat.lt_of_lt_of_le hb.2.1 hg.size, fun e => by
      rcases hat with h4 | h4
      · exact hb.2.2 (h4 ▸ e)
      · rw [h4] at e; injection e with e; have := hb.2.1; omega⟩
  refine ⟨by simpa using ho, fun x hm => ?_⟩
  rcases List.mem_append.1 hm with hm | hm
  · exact hk (h.kid x hm)
  · simp only [List.mem_singleton] at hm
    subst hm
    exact hk hn
theorem pssIn_of {W : World} {S : Nat → Prop} {g o : Nat} (hg : S g) : ∀ (l : List (Ps × Value)) (k : Nat), (∀ j x, l[j]? = some x → ∀ i, i < 4 → W.cell? ⟨g, o + (k + j) * 4 + i, none⟩ = (psC x.1.d x.2)[i]?) → (∀ x ∈ l, PsIn W S x.1 x.2) → PssIn W S (l.map (·.1)) (some ⟨g, o, none⟩) k
  | [], _, _, _ => trivial
  | x :: l, k, hc, hk => ⟨⟨g, o, x.2, hg, rfl, fun i hi => hc 0 x rfl i hi, hk x (by simp)⟩, pssIn_of hg l (k + 1) (fun j y hj i hi => by
      rw [show k + 1 + j = k + (j + 1) by omega]
      exact hc (j + 1) y (by simpa using hj) i hi) (fun y hy => hk y (by simp [hy]))⟩
theorem LstPs.node {W : World} {B C : Nat} {v : Value} {l : List (Ps × Value)} (h : LstPs W B C v l) (hCB : C ≤ B) (hd : Pd) : PsB C W (.mk hd (l.map (·.1))) v := by
  rcases h.own.slice with ⟨rfl, h0⟩ | ⟨g, cap, cur, rfl, hg, hb, _⟩
  · have : l = [] := by cases l with
      | nil => rfl
      | cons => simp at h0
    subst this
    exact ⟨none, 0, rfl, trivial⟩
  · refine ⟨some ⟨g, 0, none⟩, cap, by simp, pssIn_of ⟨Nat.le_trans hCB hg, hb.lt⟩ l 0 (fun j x hj i hi => ?_) (fun x hm => PsIn.keep (fun _ hb => ⟨rfl, hb.1, hb.2.1⟩) (h.kid x hm))⟩
    have := h.own.cell j (psC x.1.d x.2) (by simp [hj]) i hi
    simpa using this

section
variable {ops : Array Oper} {rest : List Oper} {o : Oper} {a : Act} {w : World} {Q : Exit → Act → World → Prop}
/-- 'list = append(list, node)' where the call made the list. -/
theorem wpl_appPs (hgd : o.guard = none) (s x : Operand) (ho : o.op = .call { callee := .builtin .append, args := #[s, x], argTypes := #[81, 81] })
    (B C : Nat) (v : Value) (l : List (Ps × Value)) (n : Ps) (sv : Value) (g c : Nat) (hs : a.eval s = v) (hx : a.eval x = .slice (some ⟨g, 0, none⟩) 1 c) (hL : LstPs w B C v l) (hB : B ≤ w.heap.size) (hn : PsIn w (fun b => C ≤ b ∧ Off w v b) n sv) (hg : Blk w g 83 (psA n.d sv)) (hl : l.length ≤ 1000000000)
    (hK : ∀ v' w1, LstPs w1 B C v' (l ++ [(n, sv)]) → w.grownBy w1 v.ownBlock → wpList Tryz.prog ops Q rest (a.put o.dst v') w1) : wpList Tryz.prog ops Q (o :: rest) a w := by
  refine wpList_appR hgd s x _ ho B 83 _ 4 48 Tryz.underlying81 info_psZ rfl (by decide) v _ hs hL.own g c (psC n.d sv) rfl hx (fun i _ => by rw [hg.cell, psA_get]) (psC_one hn.ok.sl) (by simp; omega) (by simp; omega) hB ?_
  intro v' w1 h1 h2 h3
  exact hK v' w1 (hL.snoc hn h1 h2 h3) h2
theorem ext_grown_Ps {w0 w w1 : World} {B C : Nat} {v : Value} {l : List (Ps × Value)} (h : Ext w0 w) (hL : LstPs w B C v l) (hB : w0.heap.size ≤ B) (hg : w.grownBy w1 v.ownBlock) : Ext w0 w1 :=
  h.grown hg fun k hk => by have := (hL.ownB k hk).1; omega
/-- A tree older than the list. -/
theorem PsB.far {C : Nat} {W0 W : World} {n : Ps} {sv v : Value} (h : PsB C W0 n sv) (hx : Ext W0 W) (hv : ∀ i, v.ownBlock = some i → W0.heap.size ≤ i) : PsIn W (fun b => C ≤ b ∧ Off W v b) n sv :=
  PsIn.keep (fun b hb => ⟨sameAt_of_block (Below.block hx b hb.2), hb.1, Nat.lt_of_lt_of_le hb.2 hx.size, fun e => by have := hv b e; omega⟩) h
/-- A tree younger than the list. -/
theorem PsB.near {C D : Nat} {W : World} {n : Ps} {sv v : Value} (h : PsB D W n sv) (hCD : C ≤ D) (hv : ∀ i, v.ownBlock = some i → i < D) : PsIn W (fun b => C ≤ b ∧ Off W v b) n sv :=
  PsIn.keep (fun b hb => ⟨rfl, Nat.le_trans hCD hb.1, hb.2, fun e => by have := hv b e; omega⟩) h
theorem psIn_ext {C : Nat} {W W' : World} {n : Ps} {sv v : Value} (h : PsIn W (fun b => C ≤ b ∧ Off W v b) n sv) (hx : Ext W W') : PsIn W' (fun b => C ≤ b ∧ Off W' v b) n sv :=
  PsIn.keep (fun b hb => ⟨sameAt_of_block (Below.block hx b hb.2.1), hb.1, Nat.lt_of_lt_of_le hb.2.1 hx.size, hb.2.2⟩) h
end

end Go.Proofs.YtgfknlkpdiejgaaGreatDoor
