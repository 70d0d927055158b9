/- trawlnum.SameSpans as a contract. Condition: both lists can be read; the first has at most a million elements. -/
import Derived.Test.YthddlhpndaffjaaDoorSpW
import Derived.Test.YthddlhpndaffjaaDoorNum
namespace Go.Proofs.YthddlhpndaffjaaDoor
open Go Go.RowKit

/-- A slice of spans reads as this list. -/
def RdS (w : World) (v : Value) (l : List (Int × Int)) : Prop :=
  ∃ A c, v = .slice A l.length c ∧ ∀ j (h : j < l.length), ∃ g o, A = some ⟨g, o, none⟩ ∧ w.cell? ⟨g, o + j * 2, none⟩ = some (.int .i64 l[j].1) ∧ w.cell? ⟨g, o + j * 2 + 1, none⟩ = some (.int .i64 l[j].2)
theorem RdS.ext {w w' : World} {v : Value} {l : List (Int × Int)} (h : RdS w v l) (hx : Ext w w') : RdS w' v l := by
  obtain ⟨A, c, hv, hc⟩ := h
  exact ⟨A, c, hv, fun j hj => by obtain ⟨g, o, hA, h1, h2⟩ := hc j hj; exact ⟨g, o, hA, hx.cell h1, hx.cell h2⟩⟩
theorem RdS.nil (w : World) (A : Option Addr) (c : Nat) : RdS w (.slice A 0 c) [] := ⟨A, c, rfl, fun _ hj => absurd hj (Nat.not_lt_zero _)⟩
theorem RdS.of_own {w : World} {B : Nat} {v : Value} {l : List (Int × Int)} (h : OwnSp w B v l) : RdS w v l := by
  rcases OwnR.slice h with ⟨rfl, h0⟩ | ⟨g, cap, cur, hv, _⟩
  · have : l = [] := by cases l with
      | nil => rfl
      | cons => simp [spR] at h0
    subst this
    exact RdS.nil _ _ _
  · subst hv
    refine ⟨_, cap, by rw [spR_len], fun j hj => ⟨g, 0, rfl, ?_, ?_⟩⟩
    · have := OwnR.cell h j _ (spR_get l j hj) 0 (by omega)
      rw [Nat.zero_add]
      exact this
    · have := OwnR.cell h j _ (spR_get l j hj) 1 (by omega)
      rw [Nat.zero_add]
      exact this

set_option maxHeartbeats 4000000 in
theorem eqIn_span (d : Nat) (a0 a1 b0 b1 : Int) (w : World) :
    (Op.equalIn (d + 2) 74 (.agg #[.int .i64 a0, .int .i64 a1]) (.agg #[.int .i64 b0, .int .i64 b1])).run Tryd.prog w = .ok (decide (a0 = b0 ∧ a1 = b1)) w := by
  have p0 : ∀ (a0 a1 : Int) w, (part 3 #[.int .i64 a0, .int .i64 a1] 0).run Tryd.prog w = .ok (.int .i64 a0) w := fun _ _ _ => by kernel_rfl
  have p1 : ∀ (a0 a1 : Int) w, (part 3 #[.int .i64 a0, .int .i64 a1] 1).run Tryd.prog w = .ok (.int .i64 a1) w := fun _ _ _ => by kernel_rfl
  have e : ∀ (a b : Int) w, (Op.equalIn (d + 1) 3 (.int .i64 a) (.int .i64 b)).run Tryd.prog w = .ok (decide (a = b)) w := fun a b w => by
    rw [run_equalIn_int w d _ _ _ a b Tryd.underlying3]; by_cases h : a = b <;> simp [h]
  unfold Op.equalIn
  simp only [Sem.run_bind, run_underlying Tryd.underlying74, Result.andThen_ok]
  by_cases h0 : a0 = b0 <;> by_cases h1 : a1 = b1 <;> simp [p0, p1, e, List.forIn_cons, h0, h1]
theorem neq_span (a0 a1 b0 b1 : Int) (w : World) :
    (binOp .neq 74 (.agg #[.int .i64 a0, .int .i64 a1]) (.agg #[.int .i64 b0, .int .i64 b1])).run Tryd.prog w = .ok (.bool (!decide (a0 = b0 ∧ a1 = b1))) w := by
  have := eqIn_span 9998 a0 a1 b0 b1 w
  simp only [binOp]
  simp [Op.equal, Op.maxDepth, this]

theorem eq_prefix {la lb : List (Int × Int)} (hl : la.length = lb.length) (h : ∀ j (h1 : j < la.length) (h2 : j < lb.length), la[j] = lb[j]) : la = lb := List.ext_getElem hl h

set_option maxRecDepth 100000 in
set_option maxHeartbeats 2000000 in
theorem sameSpans_any (va vb : Value) (la lb : List (Int × Int)) (w : World) (hm : la.length ≤ 1000000) (ha : RdS w va la) (hb : RdS w vb lb) :
    Calls Tryd.prog 43 #[va, vb] w fun r w' => r = .returned (.bool (decide (la = lb))) ∧ Ext w w' := by
  obtain ⟨A, ca, rfl, hca⟩ := ha
  obtain ⟨B, cb, rfl, hcb⟩ := hb
  have HCA := Lib.hid hca
  have HCB := Lib.hid hcb
  clear hca hcb
  by_cases hl : la.length = lb.length
  case neg =>
    have hne : ((la.length : Int) != (lb.length : Int)) = true := by rw [bne_iff_ne]; omega
    have hf : decide (la = lb) = false := by rw [decide_eq_false_iff_not]; intro e; apply hl; rw [e]
    have HF := Lib.hid hf
    clear hf hl
    go_enter Tryd.func43, Tryd.ntmps43
    go_wp2
    go_ret
    exact ⟨ret_bool HF.out.symm, Ext.refl _⟩
  have hne : ((la.length : Int) != (lb.length : Int)) = false := by rw [hl]; simp
  have HL := Lib.hid hl; clear hl
  go_enter Tryd.func43, Tryd.ntmps43
  go_wp2
  go_loopw [13] (fun i wr => ∃ k : Nat, k ≤ la.length ∧ i = .int .i64 k ∧ Hid (∀ j (h1 : j < la.length) (h2 : j < lb.length), j < k → la[j] = lb[j]) ∧ Ext w wr) (fun i _ => la.length - (intOf i).toNat)
  case atStart => exact ⟨0, Nat.zero_le _, rfl, Lib.hid (fun j _ _ hj => by omega), Ext.refl _⟩
  case round =>
    obtain ⟨k, hk, rfl, hq, hx⟩ := hrel
    by_cases hlt : k < la.length
    · have hlt2 : k < lb.length := by have := HL.out; omega
      obtain ⟨g, o, rfl, h1, h2⟩ := HCA.out k hlt
      obtain ⟨g', o', rfl, h3, h4⟩ := HCB.out k hlt2
      have p1 := cell_plus (hx.cell h1)
      have p2 := cell_plus (hx.cell h2)
      have p3 := cell_plus (hx.cell h3)
      have p4 := cell_plus (hx.cell h4)
      have t1 : (k : Int) < (la.length : Int) := by omega
      have t2 : (k : Int) < (lb.length : Int) := by omega
      have HE := Lib.hid (show (la[k] = lb[k]) ↔ (la[k].1 = lb[k].1 ∧ la[k].2 = lb[k].2) from Prod.ext_iff)
      have HNE := Lib.hid (show la = lb → la[k] = lb[k] from fun e => by subst e; rfl)
      clear h1 h2 h3 h4 HCA HCB
      have HQ := hq
      clear hq
      generalize hxk : la[k] = xk at *
      generalize hyk : lb[k] = yk at *
      have HXK := Lib.hid hxk
      have HYK := Lib.hid hyk
      clear hxk hyk
      obtain ⟨x1, x2⟩ := xk
      obtain ⟨y1, y2⟩ := yk
      simp only at *
      have hne2 := neq_span x1 x2 y1 y2
      obtain ⟨bq, HBQ⟩ : ∃ bq, Hid (bq = decide (x1 = y1 ∧ x2 = y2)) := ⟨_, Lib.hid rfl⟩
      rw [← HBQ.out] at hne2
      go_upto_region 6 with fail
      refine wp_region_plus (by kernel_rfl) (by kernel_rfl) ?_
      repeat (go_big_quiet_step (fail))
      refine wpQuiet_nil ?_
      intro y
      clear p1 p2 p3 p4 hne2
      cases bq
      · have hf : decide (la = lb) = false := by
          rw [decide_eq_false_iff_not]
          intro e
          have h1 := HBQ.out
          rw [decide_eq_true (by have := HNE.out e; simpa using this)] at h1
          cases h1
        have HF := Lib.hid hf
        clear hf
        go_wp2
        go_ret
        exact ⟨ret_bool HF.out.symm, hx.trans (plus_ext _ y)⟩
      · have HEQ := Lib.hid (of_decide_eq_true HBQ.out.symm)
        go_wp2
        go_roundw
        case rel =>
          refine ⟨k + 1, hlt, by go_num, Lib.hid (fun j h1 h2 hj => ?_), hx.trans (plus_ext _ y)⟩
          rcases Nat.lt_or_ge j k with hjk | hjk
          · exact HQ.out j h1 h2 hjk
          · have : j = k := by omega
            subst this
            rw [HXK.out, HYK.out, HEQ.out.1, HEQ.out.2]
        case measure => simp [intOf]; omega
    · have hf : decide (la = lb) = true := by
        rw [decide_eq_true_eq]
        exact eq_prefix HL.out (fun j h1 h2 => hq.out j h1 h2 (by omega))
      have HF := Lib.hid hf
      have t1 : ¬ (k : Int) < (la.length : Int) := by omega
      clear hf hq HCA HCB
      go_wp2
      go_ret
      exact ⟨ret_bool HF.out.symm, hx⟩

end Go.Proofs.YthddlhpndaffjaaDoor
