/- New trees' lists fit their rooms; their blocks begin with a node. No program. tree.Group as a contract. Condition: the tree lies in memory. Slices of ints that read as a list, and trawlnum.SameInts as a contract. Slices of at most 10^12 elements. trawlnum.SameSpans as a contract. Condition: both lists can be read; the first has at most a million elements. -/
import Derived.Test.YtgfknlkpdiejgaaGreatDoorZRankedFindsAC
import Derived.Test.YtgfknlkpdiejgaaGreatDoorZRankedFindsAJ
import Derived.Test.YtgfknlkpdiejgaaGreatDoorZRankedFindsAT
import Derived.Test.YtgfknlkpdiejgaaGreatDoorProg
import Derived.Test.YtgfknlkpdiejgaaGreatDoorLib
import Derived.Test.YtgfknlkpdiejgaaGreatDoorZRankedFindsAL
namespace Go.Proofs.YtgfknlkpdiejgaaGreatDoor
open Go Go.RowKit

mutual
theorem NdFp.cap {W : World} : ∀ {n : Nd} {sv : Value} {fp : List Nat}, NdFp W n sv fp → NdCap W n sv
  | .mk _ subs, sv, fp, h => by
    unfold NdFp at h
    unfold NdCap
    rcases h with ⟨rfl, ⟨A, c, rfl⟩, _⟩ | ⟨g, c, fps, rfl, _, ⟨_, hc⟩, h⟩
    · exact ⟨A, c, rfl, Nat.zero_le _, trivial⟩
    · exact ⟨_, c, rfl, hc, NdsFp.cap h⟩
theorem NdsFp.cap {W : World} : ∀ {l : List Nd} {g k : Nat} {fps : List Nat}, NdsFp W l g k fps → NdsCap W l (some ⟨g, 0, none⟩) k
  | [], _, _, _, _ => trivial
  | n :: r, g, k, fps, h => by
    unfold NdsFp at h
    obtain ⟨f1, f2, sv, _, h1, h2, h3⟩ := h
    exact ⟨⟨g, 0, sv, rfl, fun i hi => by rw [Nat.zero_add]; exact h1 i hi, h2.cap⟩, h3.cap⟩
end
theorem NdNew.cap {B : Nat} {W : World} {n : Nd} {sv : Value} (h : NdNew B W n sv) : NdCap W n sv := by
  obtain ⟨fp, h, _⟩ := h
  exact h.cap
theorem form_kind {n : Nd} (hf : formB n = true) : 1 ≤ n.h.kind := by
  obtain ⟨h, subs⟩ := n
  have := form_cases hf
  simp only [Nd.h]
  omega
mutual
/-- What is written into a block that begins with a nought reaches none of its lists. -/
theorem NdFp.off {W W' : World} {z : Nat} (hk : Keeps (· = z) W W') (hz : W.cell? ⟨z, 0, none⟩ = some (.int .i64 0)) : ∀ {n : Nd} {sv : Value} {fp : List Nat}, NdFp W n sv fp → formB n = true → NdCap W' n sv
  | .mk h subs, sv, fp, hn, hf => by
    unfold NdFp at hn
    unfold NdCap
    rcases hn with ⟨rfl, ⟨A, c, rfl⟩, _⟩ | ⟨g, c, fps, rfl, _, ⟨_, hc⟩, hs⟩
    · exact ⟨A, c, rfl, Nat.zero_le _, trivial⟩
    · refine ⟨_, c, rfl, hc, ?_⟩
      have hl : formL subs = true := by rw [formB, Bool.and_eq_true] at hf; exact hf.2
      refine NdsFp.off hk hz hs hl (fun e => ?_)
      match subs, hs, hl, e with
      | [], _, _, e => exact absurd rfl e
      | n :: r, hs, hl, _ => exact fun hg => (by
        subst hg
        unfold NdsFp at hs
        obtain ⟨f1, f2, sv, _, h1, _⟩ := hs
        have h2 := h1 0 (by omega)
        rw [Nat.zero_mul, Nat.zero_add, hz] at h2
        rw [formL, Bool.and_eq_true] at hl
        have h3 := form_kind hl.1
        have h4 : (nodeC n.h sv)[0]? = some (.int .i64 n.h.kind) := rfl
        rw [h4] at h2
        simp only [Option.some.injEq, Value.int.injEq, true_and] at h2
        omega)
theorem NdsFp.off {W W' : World} {z : Nat} (hk : Keeps (· = z) W W') (hz : W.cell? ⟨z, 0, none⟩ = some (.int .i64 0)) : ∀ {l : List Nd} {g k : Nat} {fps : List Nat}, NdsFp W l g k fps → formL l = true → (l ≠ [] → g ≠ z) → NdsCap W' l (some ⟨g, 0, none⟩) k
  | [], _, _, _, _, _, _ => trivial
  | n :: r, g, k, fps, h, hf, hg => by
    unfold NdsFp at h
    obtain ⟨f1, f2, sv, _, h1, h2, h3⟩ := h
    rw [formL, Bool.and_eq_true] at hf
    have hgz := hg (by simp)
    exact ⟨⟨g, 0, sv, rfl, fun i hi => by
      rw [Nat.zero_add]
      have e := h1 i hi
      have hs : (nodeC n.h sv)[i]? = some (nodeC n.h sv)[i] := List.getElem?_eq_getElem (by simpa [nodeC] using hi)
      rw [hs] at e ⊢
      exact cell_keeps e hk hgz, NdFp.off hk hz h2 hf.1⟩, NdsFp.off hk hz h3 hf.2 (fun _ => hgz)⟩
end
/-- A tree with room, that no such write reaches. -/
def CapZ (W : World) (n : Nd) (sv : Value) : Prop := NdCap W n sv ∧ ∀ z W', Keeps (· = z) W W' → W.cell? ⟨z, 0, none⟩ = some (.int .i64 0) → NdCap W' n sv
theorem NdNew.capZ {B : Nat} {W : World} {n : Nd} {sv : Value} (h : NdNew B W n sv) (hf : formB n = true) : CapZ W n sv := by
  obtain ⟨fp, h, _⟩ := h
  exact ⟨h.cap, fun z W' hk hz => NdFp.off hk hz h hf⟩
theorem CapZ.ext {W V : World} {n : Nd} {sv : Value} (h : CapZ W n sv) (hx : Ext W V) : CapZ V n sv :=
  ⟨NdCap.ext hx h.1, fun z V' hk hz => by
    by_cases hzw : z < W.heap.size
    · have e : V.cell? ⟨z, 0, none⟩ = W.cell? ⟨z, 0, none⟩ := World.cell?_of_block (a := ⟨z, 0, none⟩) (Below.block hx z hzw)
      rw [e] at hz
      exact h.2 z V' ((Keeps.of_ext hx).trans hk (fun _ _ h => h)) hz
    · exact NdCap.ext (hx.keep1 hk (by omega)) h.1⟩

end Go.Proofs.YtgfknlkpdiejgaaGreatDoor

namespace Go.Proofs.YtgfknlkpdiejgaaGreatDoor
open Go Go.RowKit

set_option maxRecDepth 100000 in
set_option maxHeartbeats 4000000 in
theorem tgroup_any (num : Int) (n : Nd) (sv : Value) (w : World) (hn : NdOk w n sv) (hsm : smallN n) :
    Calls Tryz.prog 19 #[.int .i64 num, nodeV n.h sv] w (RetNd w (.mk ⟨7, noS, num, 0, 0, false⟩ [n])) := by
  have HC := Lib.hid (fun W (hW : Ext w W) => copy_any n sv W (NdOk.ext hW _ _ hn) hsm)
  have hsl := hn.sl
  clear hn hsm
  go_enter Tryz.func19, Tryz.ntmps19
  go_wp2_with (first
    | (refine wpl_boxNd rfl _ rfl n.h _ rfl ?_; intro b w1 hb hx1 eb sb)
    | (refine wpl_allocNd rfl rfl ?_; intro z w2 hz hx2 ez sz)
    | (refine wpl_loadNd rfl _ rfl b 0 n.h sv rfl (hb.ext hx2).nd ?_)
    | (go_at_call 37; refine (HC.out _ (hx1.trans hx2)).mono ?_; rintro e w6 ⟨sv6, rfl, hn6, hx6⟩)
    | (refine wpl_oneNd rfl _ rfl n.h sv6 rfl ?_; intro g7 w7 hb7 hx7 e7 s7)
    | (refine wpl_storeNd rfl _ _ rfl rfl z ⟨7, noS, num, 0, 0, false⟩ _ (.slice (some ⟨g7, 0, none⟩) 1 1) _ rfl (node_lit _ _ _ _ _ _) (isSl_mk _ _ _) ((hz.ext hx6).ext hx7) ?_; intro w8 hz8 hk8))
  have h1 := hx1.size
  have h2 := hx2.size
  have h6 := hx6.size
  exact ret_nd rfl rfl rfl hz8 ⟨_, rfl, ((NdNew.one hn6 hx7 hb7 e7 h6 _ 1).keep1 hk8 sz).mono (by omega), ((hx1.trans hx2).trans (hx6.trans hx7)).keep1 hk8 (by omega)⟩


end Go.Proofs.YtgfknlkpdiejgaaGreatDoor

namespace Go.Proofs.YtgfknlkpdiejgaaGreatDoor
open Go.RowKit

theorem info_int : (Tryz.prog.info? 3).map (fun i => (i.zero, i.size, i.bytes)) = some (some (.int .i64 0), 1, 8) := by kernel_rfl

def cI (l : List Int) : List Value := l.map (Value.int .i64)
@[simp] theorem cI_len (l : List Int) : (cI l).length = l.length := by simp [cI]
theorem cI_get (l : List Int) (j : Nat) (h : j < l.length) : (cI l)[j]? = some (.int .i64 (l.getD j 0)) := by simp [cI, h]
def i64s (l : List Int) : Array Value := (cI l).toArray
@[simp] theorem i64s_size (l : List Int) : (i64s l).size = l.length := by simp [i64s]
theorem i64s_get (l : List Int) (j : Nat) (h : j < l.length) : (i64s l)[j]? = some (.int .i64 (l.getD j 0)) := by simp [i64s, cI, h]
theorem i64s_set (l : List Int) (j : Nat) (x : Int) : (i64s l).setIfInBounds j (.int .i64 x) = i64s (l.set j x) := by
  apply Array.ext'
  simp [i64s, cI, List.map_set]
theorem made_i64 (n : Nat) : madeCells #[Value.int .i64 0] n = i64s (List.replicate n 0) := by
  apply Array.ext
  · simp [madeCells]
  · intro i h1 h2
    simp [madeCells, i64s, cI, Nat.mod_one]

/-- A slice of ints reads as this list. -/
def RdI (w : World) (v : Value) (l : List Int) : Prop :=
  ∃ A c, v = .slice A l.length c ∧ ∀ j, j < l.length → ∃ g o, A = some ⟨g, o, none⟩ ∧ w.cell? ⟨g, o + j, none⟩ = some (.int .i64 (l.getD j 0))

theorem RdI.ext {w w' : World} {v : Value} {l : List Int} (h : RdI w v l) (hx : Ext w w') : RdI w' v l := by
  obtain ⟨A, c, hv, hc⟩ := h
  exact ⟨A, c, hv, fun j hj => by obtain ⟨g, o, hA, hcell⟩ := hc j hj; exact ⟨g, o, hA, hx.cell hcell⟩⟩
theorem RdI.of_own {w : World} {B : Nat} {e : TypeId} {v : Value} {l : List Int} (h : Own1 w B e v (cI l)) : RdI w v l := by
  rcases Nat.eq_zero_or_pos l.length with h0 | h0
  · rcases h.2 with ⟨rfl, _⟩ | ⟨g, cap, cur, rfl, _⟩
    · exact ⟨none, 0, by rw [h0], fun j hj => by omega⟩
    · exact ⟨some ⟨g, 0, none⟩, cap, by rw [cI_len], fun j hj => by omega⟩
  · obtain ⟨g, cap, rfl, _, _, hc⟩ := h.form (by simpa using h0)
    exact ⟨some ⟨g, 0, none⟩, cap, by rw [cI_len], fun j hj => ⟨g, 0, rfl, by rw [Nat.zero_add]; exact hc j _ (cI_get l j hj)⟩⟩
theorem RdI.of_blk {w : World} {g : Nat} {e : TypeId} {l : List Int} {c : Nat} (h : Blk w g e (i64s l)) : RdI w (.slice (some ⟨g, 0, none⟩) l.length c) l :=
  ⟨_, _, rfl, fun j hj => ⟨g, 0, rfl, by rw [Nat.zero_add, h.cell]; exact i64s_get l j hj⟩⟩

theorem getD_ext (la lb : List Int) (hl : la.length = lb.length) (h : ∀ j, j < la.length → la.getD j 0 = lb.getD j 0) : la = lb := by
  apply List.ext_getElem hl
  intro j h1 h2
  have := h j h1
  rw [List.getD_eq_getElem?_getD, List.getD_eq_getElem?_getD, List.getElem?_eq_getElem h1, List.getElem?_eq_getElem h2] at this
  exact this

end Go.Proofs.YtgfknlkpdiejgaaGreatDoor

namespace Go.Proofs.YtgfknlkpdiejgaaGreatDoor
open Go Go.RowKit

/-- A slice of spans reads as this list. -/
def RdSn (w : World) (v : Value) (l : List (Int × Int)) : Prop :=
  ∃ A c, v = .slice A l.length c ∧ ∀ j (h : j < l.length), ∃ g o, A = some ⟨g, o, none⟩ ∧ w.cell? ⟨g, o + j * 2, none⟩ = some (.int .i64 l[j].1) ∧ w.cell? ⟨g, o + j * 2 + 1, none⟩ = some (.int .i64 l[j].2)
theorem RdSn.ext {w w' : World} {v : Value} {l : List (Int × Int)} (h : RdSn w v l) (hx : Ext w w') : RdSn w' v l := by
  obtain ⟨A, c, hv, hc⟩ := h
  exact ⟨A, c, hv, fun j hj => by obtain ⟨g, o, hA, h1, h2⟩ := hc j hj; exact ⟨g, o, hA, hx.cell h1, hx.cell h2⟩⟩
theorem RdSn.nil (w : World) (A : Option Addr) (c : Nat) : RdSn w (.slice A 0 c) [] := ⟨A, c, rfl, fun _ hj => absurd hj (Nat.not_lt_zero _)⟩
theorem RdSn.of_own {w : World} {B : Nat} {v : Value} {l : List (Int × Int)} (h : OwnSp w B v l) : RdSn w v l := by
  rcases OwnR.slice h with ⟨rfl, h0⟩ | ⟨g, cap, cur, hv, _⟩
  · have : l = [] := by cases l with
      | nil => rfl
      | cons => simp [spR] at h0
    subst this
    exact RdSn.nil _ _ _
  · subst hv
    refine ⟨_, cap, by rw [spR_len], fun j hj => ⟨g, 0, rfl, ?_, ?_⟩⟩
    · have := OwnR.cell h j _ (spR_get l j hj) 0 (by omega)
      rw [Nat.zero_add]
      exact this
    · have := OwnR.cell h j _ (spR_get l j hj) 1 (by omega)
      rw [Nat.zero_add]
      exact this

set_option maxHeartbeats 4000000 in
theorem eqIn_span (d : Nat) (a0 a1 b0 b1 : Int) (w : World) :
    (Op.equalIn (d + 2) 52 (.agg #[.int .i64 a0, .int .i64 a1]) (.agg #[.int .i64 b0, .int .i64 b1])).run Tryz.prog w = .ok (decide (a0 = b0 ∧ a1 = b1)) w := by
  have p0 : ∀ (a0 a1 : Int) w, (part 3 #[.int .i64 a0, .int .i64 a1] 0).run Tryz.prog w = .ok (.int .i64 a0) w := fun _ _ _ => by kernel_rfl
  have p1 : ∀ (a0 a1 : Int) w, (part 3 #[.int .i64 a0, .int .i64 a1] 1).run Tryz.prog w = .ok (.int .i64 a1) w := fun _ _ _ => by kernel_rfl
  have e : ∀ (a b : Int) w, (Op.equalIn (d + 1) 3 (.int .i64 a) (.int .i64 b)).run Tryz.prog w = .ok (decide (a = b)) w := fun a b w => by
    rw [run_equalIn_int w d _ _ _ a b Tryz.underlying3]; by_cases h : a = b <;> simp [h]
  unfold Op.equalIn
  simp only [Sem.run_bind, run_underlying Tryz.underlying52, Result.andThen_ok]
  by_cases h0 : a0 = b0 <;> by_cases h1 : a1 = b1 <;> simp [p0, p1, e, List.forIn_cons, h0, h1]
theorem neq_span (a0 a1 b0 b1 : Int) (w : World) :
    (binOp .neq 52 (.agg #[.int .i64 a0, .int .i64 a1]) (.agg #[.int .i64 b0, .int .i64 b1])).run Tryz.prog w = .ok (.bool (!decide (a0 = b0 ∧ a1 = b1))) w := by
  have := eqIn_span 9998 a0 a1 b0 b1 w
  simp only [binOp]
  simp [Op.equal, Op.maxDepth, this]

theorem eq_prefix {la lb : List (Int × Int)} (hl : la.length = lb.length) (h : ∀ j (h1 : j < la.length) (h2 : j < lb.length), la[j] = lb[j]) : la = lb := List.ext_getElem hl h

set_option maxRecDepth 100000 in
set_option maxHeartbeats 2000000 in
theorem sameSpans_any (va vb : Value) (la lb : List (Int × Int)) (w : World) (hm : la.length ≤ 1000000) (ha : RdSn w va la) (hb : RdSn w vb lb) :
    Calls Tryz.prog 12 #[va, vb] w fun r w' => r = .returned (.bool (decide (la = lb))) ∧ Ext w w' := by
  obtain ⟨A, ca, rfl, hca⟩ := ha
  obtain ⟨B, cb, rfl, hcb⟩ := hb
  have HCA := Lib.hid hca
  have HCB := Lib.hid hcb
  clear hca hcb
  by_cases hl : la.length = lb.length
  case neg =>
    have hne : ((la.length : Int) != (lb.length : Int)) = true := by rw [bne_iff_ne]; omega
    have hf : decide (la = lb) = false := by rw [decide_eq_false_iff_not]; intro e; apply hl; rw [e]
    have HF := Lib.hid hf
    clear hf hl
    go_enter Tryz.func12, Tryz.ntmps12
    go_wp2
    go_ret
    exact ⟨ret_bool HF.out.symm, Ext.refl _⟩
  have hne : ((la.length : Int) != (lb.length : Int)) = false := by rw [hl]; simp
  have HL := Lib.hid hl; clear hl
  go_enter Tryz.func12, Tryz.ntmps12
  go_wp2
  go_loopw [13] (fun i wr => ∃ k : Nat, k ≤ la.length ∧ i = .int .i64 k ∧ Hid (∀ j (h1 : j < la.length) (h2 : j < lb.length), j < k → la[j] = lb[j]) ∧ Ext w wr) (fun i _ => la.length - (intOf i).toNat)
  case atStart => exact ⟨0, Nat.zero_le _, rfl, Lib.hid (fun j _ _ hj => by omega), Ext.refl _⟩
  case round =>
    obtain ⟨k, hk, rfl, hq, hx⟩ := hrel
    by_cases hlt : k < la.length
    · have hlt2 : k < lb.length := by have := HL.out; omega
      obtain ⟨g, o, rfl, h1, h2⟩ := HCA.out k hlt
      obtain ⟨g', o', rfl, h3, h4⟩ := HCB.out k hlt2
      have p1 := cell_plus (hx.cell h1)
      have p2 := cell_plus (hx.cell h2)
      have p3 := cell_plus (hx.cell h3)
      have p4 := cell_plus (hx.cell h4)
      have t1 : (k : Int) < (la.length : Int) := by omega
      have t2 : (k : Int) < (lb.length : Int) := by omega
      have HE := Lib.hid (show (la[k] = lb[k]) ↔ (la[k].1 = lb[k].1 ∧ la[k].2 = lb[k].2) from Prod.ext_iff)
      have HNE := Lib.hid (show la = lb → la[k] = lb[k] from fun e => by subst e; rfl)
      clear h1 h2 h3 h4 HCA HCB
      have HQ := hq
      clear hq
      generalize hxk : la[k] = xk at *
      generalize hyk : lb[k] = yk at *
      have HXK := Lib.hid hxk
      have HYK := Lib.hid hyk
      clear hxk hyk
      obtain ⟨x1, x2⟩ := xk
      obtain ⟨y1, y2⟩ := yk
      simp only at *
      have hne2 := neq_span x1 x2 y1 y2
      obtain ⟨bq, HBQ⟩ : ∃ bq, Hid (bq = decide (x1 = y1 ∧ x2 = y2)) := ⟨_, Lib.hid rfl⟩
      rw [← HBQ.out] at hne2
      go_upto_region 6 with fail
      refine wp_region_plus (by kernel_rfl) (by kernel_rfl) ?_
      repeat (go_big_quiet_step (fail))
      refine wpQuiet_nil ?_
      intro y
      clear p1 p2 p3 p4 hne2
      cases bq
      · have hf : decide (la = lb) = false := by
          rw [decide_eq_false_iff_not]
          intro e
          have h1 := HBQ.out
          rw [decide_eq_true (by have := HNE.out e; simpa using this)] at h1
          cases h1
        have HF := Lib.hid hf
        clear hf
        go_wp2
        go_ret
        exact ⟨ret_bool HF.out.symm, hx.trans (plus_ext _ y)⟩
      · have HEQ := Lib.hid (of_decide_eq_true HBQ.out.symm)
        go_wp2
        go_roundw
        case rel =>
          refine ⟨k + 1, hlt, by go_num, Lib.hid (fun j h1 h2 hj => ?_), hx.trans (plus_ext _ y)⟩
          rcases Nat.lt_or_ge j k with hjk | hjk
          · exact HQ.out j h1 h2 hjk
          · have : j = k := by omega
            subst this
            rw [HXK.out, HYK.out, HEQ.out.1, HEQ.out.2]
        case measure => simp [intOf]; omega
    · have hf : decide (la = lb) = true := by
        rw [decide_eq_true_eq]
        exact eq_prefix HL.out (fun j h1 h2 => hq.out j h1 h2 (by omega))
      have HF := Lib.hid hf
      have t1 : ¬ (k : Int) < (la.length : Int) := by omega
      clear hf hq HCA HCB
      go_wp2
      go_ret
      exact ⟨ret_bool HF.out.symm, hx⟩

end Go.Proofs.YtgfknlkpdiejgaaGreatDoor
