/- trawlnum.SameTexts of any two lists as a contract. Condition: lists of at most 10^12 texts, in memory. -/
import Derived.Test.YtkcgbdoplhgbmaaDoorOTx
namespace Go.Proofs.YtkcgbdoplhgbmaaDoor
open Go Go.RowKit

set_option maxRecDepth 100000 in
set_option maxHeartbeats 4000000 in
theorem sameT_any (l r : List ByteArray) (va vb : Value) (w : World) (ha : RdT w va l) (hb : RdT w vb r) (hl : l.length ≤ 1000000000000) :
    Calls Tryd.prog 34 #[va, vb] w fun e w' => e = .returned (.bool (decide (l = r))) ∧ Ext w w' := by
  obtain ⟨A, ca, rfl, hlca, hca⟩ := ha
  obtain ⟨B, cb, rfl, hlcb, hcb⟩ := hb
  have HCA := Lib.hid hca
  have HCB := Lib.hid hcb
  generalize hR : decide (l = r) = R
  have HR := Lib.hid hR
  clear hca hcb hR
  by_cases hne : l.length = r.length
  · have h1 : ((l.length : Int) != (r.length : Int)) = false := by simp [hne]
    have HNE := Lib.hid hne
    clear hne
    go_enter Tryd.func34, Tryd.ntmps34
    go_wp2
    go_loopw [5, 13] (fun _ i wr => ∃ k : Nat, k ≤ l.length ∧ i = .int .i64 k ∧ Ext w wr ∧ Hid (l.take k = r.take k)) (fun _ i _ => l.length - (intOf i).toNat)
    case atStart => exact ⟨0, Nat.zero_le _, rfl, Ext.refl _, Lib.hid rfl⟩
    case round =>
      obtain ⟨k, hk, rfl, hx, HT⟩ := hrel
      by_cases hlt : k < l.length
      · have hlt2 : k < r.length := by have := HNE.out; omega
        obtain ⟨g, o, rfl, hc1⟩ := HCA.out k hlt
        obtain ⟨g2, o2, rfl, hc2⟩ := HCB.out k hlt2
        have p1 := cell_plus (hx.cell hc1)
        have p2 := cell_plus (hx.cell hc2)
        have e1 : l.getD k ⟨#[]⟩ = l[k] := by rw [List.getD_eq_getElem?_getD, List.getElem?_eq_getElem hlt]; rfl
        have e2 : r.getD k ⟨#[]⟩ = r[k] := by rw [List.getD_eq_getElem?_getD, List.getElem?_eq_getElem hlt2]; rfl
        rw [e1] at p1
        rw [e2] at p2
        have q2 : (k : Int) < (r.length : Int) := by omega
        by_cases he : l[k] = r[k]
        · have HN : Hid (l.take (k + 1) = r.take (k + 1)) := Lib.hid (by rw [List.take_succ_eq_append_getElem hlt, List.take_succ_eq_append_getElem hlt2, HT.out, he])
          rw [← he] at p2
          have HX := Lib.hid hx
          clear e1 e2 hc1 hc2 he HT HCA HCB
          generalize l[k] = x at *
          have hxx : (x.toList != x.toList) = false := by simp
          go_wp2
          refine wp_region_plus (by kernel_rfl) (by kernel_rfl) ?_
          repeat (go_big_quiet_step (fail))
          refine wpQuiet_nil ?_
          intro y
          go_wp2
          go_roundw
          case rel => exact ⟨k + 1, hlt, by go_num, HX.out.trans (plus_ext _ y), HN⟩
          case measure => simp [intOf]; omega
        · have HRR : Hid (R = false) := Lib.hid (by
            rw [← HR.out, decide_eq_false_iff_not]
            intro h
            subst h
            exact he rfl)
          have HX := Lib.hid hx
          clear e1 e2 hc1 hc2 HT HCA HCB
          generalize l[k] = x at *
          generalize r[k] = x2 at *
          have hxx : (x.toList != x2.toList) = true := by
            rw [bne_iff_ne]
            intro h
            rw [ByteArray.toList_eq, ByteArray.toList_eq] at h
            exact he (byB_inj h)
          have hx2 : (x.toList == x2.toList) = false := by simpa using hxx
          have hx3 : ¬ x.toList = x2.toList := by simpa using hxx
          clear he
          go_wp2
          refine wp_region_plus (by kernel_rfl) (by kernel_rfl) ?_
          repeat (go_big_quiet_step (fail))
          refine wpQuiet_nil ?_
          intro y
          go_wp2
          go_ret
          rw [HRR.out]
          exact ⟨rfl, HX.out.trans (plus_ext _ y)⟩
      · have HRR : Hid (R = true) := Lib.hid (by
          rw [← HR.out, decide_eq_true_eq]
          have := HT.out
          rwa [List.take_of_length_le (by omega), List.take_of_length_le (by have := HNE.out; omega)] at this)
        have q1 : ¬ (k : Int) < (l.length : Int) := by omega
        clear HCA HCB
        go_wp2
        go_ret
        rw [HRR.out]
        exact ⟨rfl, hx⟩
  · have h1 : ((l.length : Int) != (r.length : Int)) = true := by rw [bne_iff_ne]; omega
    have HRR : Hid (R = false) := Lib.hid (by
      rw [← HR.out, decide_eq_false_iff_not]
      intro h
      exact hne (by rw [h]))
    clear hne HCA HCB
    go_enter Tryd.func34, Tryd.ntmps34
    go_wp2
    go_ret
    rw [HRR.out]
    exact ⟨rfl, Ext.refl _⟩

end Go.Proofs.YtkcgbdoplhgbmaaDoor
