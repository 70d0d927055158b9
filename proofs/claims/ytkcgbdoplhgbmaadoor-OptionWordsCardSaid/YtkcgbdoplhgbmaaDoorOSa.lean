/- trawlref28.Same as a contract. Condition: both lists of patterns lie in memory. -/
import Derived.Test.YtkcgbdoplhgbmaaDoorOSi
namespace Go.Proofs.YtkcgbdoplhgbmaaDoor
open Go Go.RowKit

theorem Blk.opCells {w : World} {g : Nat} {t : TypeId} {o : Ops} {pv : Value} (hb : Blk w g t (opA o pv)) :
    w.cell? ⟨g, 0, none⟩ = some (.int .i64 o.fl) ∧ w.cell? ⟨g, 1, none⟩ = some (.int .i64 o.md) ∧ w.cell? ⟨g, 2, none⟩ = some (.bool o.inv) ∧ w.cell? ⟨g, 3, none⟩ = some (.bool o.cnt) ∧ w.cell? ⟨g, 4, none⟩ = some (.bool o.num) ∧ w.cell? ⟨g, 5, none⟩ = some (.bool o.onl) ∧ w.cell? ⟨g, 6, none⟩ = some (.bool o.qui) ∧ w.cell? ⟨g, 7, none⟩ = some (.int .i64 o.most) ∧ w.cell? ⟨g, 8, none⟩ = some pv :=
  ⟨hb.cell 0, hb.cell 1, hb.cell 2, hb.cell 3, hb.cell 4, hb.cell 5, hb.cell 6, hb.cell 7, hb.cell 8⟩
/-- Options but for their patterns. -/
def sameH (a b : Ops) : Bool := a.fl == b.fl && a.md == b.md && a.inv == b.inv && a.cnt == b.cnt && a.num == b.num && a.onl == b.onl && a.qui == b.qui && a.most == b.most

set_option maxRecDepth 100000 in
set_option maxHeartbeats 4000000 in
theorem same28_any (a b : Ops) (l r : List ByteArray) (va vb : Value) (w : World) (ha : RdT w va l) (hb : RdT w vb r) (hl : l.length ≤ 1000000000000) :
    Calls Tryd.prog 33 #[opV a va, opV b vb] w fun e w' => e = .returned (.bool (sameH a b && decide (l = r))) ∧ Ext w w' := by
  obtain ⟨A, ca, rfl, hlca, hca⟩ := ha
  obtain ⟨B, cb, rfl, hlcb, hcb⟩ := hb
  have HCA := Lib.hid hca
  have HCB := Lib.hid hcb
  generalize hR : (sameH a b && decide (l = r)) = R
  have HR := Lib.hid hR
  clear hca hcb hR
  go_enter Tryd.func33, Tryd.ntmps33
  go_upto_region 1 with (first
    | (refine wpl_boxOp rfl (.tmp 0) rfl a (.slice A l.length ca) rfl ?_; intro g w1 hg hx1 hg0 hgl)
    | (refine wpl_boxOp rfl (.tmp 1) rfl b (.slice B r.length cb) rfl ?_; intro z w2 hz hx2 hz0 hzl))
  have hg2 := hg.ext hx2
  have HX := Lib.hid (hx1.trans hx2)
  have HG := Lib.hid hg2
  have HZ := Lib.hid hz
  obtain ⟨g0, g1, g2, g3, g4, g5, g6, g7, g8⟩ := hg2.opCells
  obtain ⟨z0, z1, z2, z3, z4, z5, z6, z7, z8⟩ := hz.opCells
  clear hx1 hx2 hg hg2 hz
  by_cases e_fl : a.fl = b.fl
  case neg =>
    have h_fl : (a.fl != b.fl) = true := by rw [bne_iff_ne]; exact e_fl
    have HRR : Hid (R = false) := Lib.hid (by rw [← HR.out]; simp [sameH, e_fl])
    clear HCA HCB
    go_wp2
    go_ret
    rw [HRR.out]
    exact ⟨rfl, HX.out⟩
  have h_fl : (a.fl != b.fl) = false := by rw [e_fl]; simp
  by_cases e_md : a.md = b.md
  case neg =>
    have h_md : (a.md != b.md) = true := by rw [bne_iff_ne]; exact e_md
    have HRR : Hid (R = false) := Lib.hid (by rw [← HR.out]; simp [sameH, e_md])
    clear HCA HCB
    go_wp2
    go_ret
    rw [HRR.out]
    exact ⟨rfl, HX.out⟩
  have h_md : (a.md != b.md) = false := by rw [e_md]; simp
  by_cases e_inv : a.inv = b.inv
  case neg =>
    have h_inv : (a.inv != b.inv) = true := by rw [bne_iff_ne]; exact e_inv
    have HRR : Hid (R = false) := Lib.hid (by rw [← HR.out]; simp [sameH, e_inv])
    clear HCA HCB
    go_wp2
    go_ret
    rw [HRR.out]
    exact ⟨rfl, HX.out⟩
  have h_inv : (a.inv != b.inv) = false := by rw [e_inv]; simp
  by_cases e_cnt : a.cnt = b.cnt
  case neg =>
    have h_cnt : (a.cnt != b.cnt) = true := by rw [bne_iff_ne]; exact e_cnt
    have HRR : Hid (R = false) := Lib.hid (by rw [← HR.out]; simp [sameH, e_cnt])
    clear HCA HCB
    go_wp2
    go_ret
    rw [HRR.out]
    exact ⟨rfl, HX.out⟩
  have h_cnt : (a.cnt != b.cnt) = false := by rw [e_cnt]; simp
  by_cases e_num : a.num = b.num
  case neg =>
    have h_num : (a.num != b.num) = true := by rw [bne_iff_ne]; exact e_num
    have HRR : Hid (R = false) := Lib.hid (by rw [← HR.out]; simp [sameH, e_num])
    clear HCA HCB
    go_wp2
    go_ret
    rw [HRR.out]
    exact ⟨rfl, HX.out⟩
  have h_num : (a.num != b.num) = false := by rw [e_num]; simp
  by_cases e_onl : a.onl = b.onl
  case neg =>
    have h_onl : (a.onl != b.onl) = true := by rw [bne_iff_ne]; exact e_onl
    have HRR : Hid (R = false) := Lib.hid (by rw [← HR.out]; simp [sameH, e_onl])
    clear HCA HCB
    go_wp2
    go_ret
    rw [HRR.out]
    exact ⟨rfl, HX.out⟩
  have h_onl : (a.onl != b.onl) = false := by rw [e_onl]; simp
  by_cases e_qui : a.qui = b.qui
  case neg =>
    have h_qui : (a.qui != b.qui) = true := by rw [bne_iff_ne]; exact e_qui
    have HRR : Hid (R = false) := Lib.hid (by rw [← HR.out]; simp [sameH, e_qui])
    clear HCA HCB
    go_wp2
    go_ret
    rw [HRR.out]
    exact ⟨rfl, HX.out⟩
  have h_qui : (a.qui != b.qui) = false := by rw [e_qui]; simp
  by_cases e_most : a.most = b.most
  case neg =>
    have h_most : (a.most != b.most) = true := by rw [bne_iff_ne]; exact e_most
    have HRR : Hid (R = false) := Lib.hid (by rw [← HR.out]; simp [sameH, e_most])
    clear HCA HCB
    go_wp2
    go_ret
    rw [HRR.out]
    exact ⟨rfl, HX.out⟩
  have h_most : (a.most != b.most) = false := by rw [e_most]; simp
  by_cases hne : l.length = r.length
  case neg =>
    have h1 : ((l.length : Int) != (r.length : Int)) = true := by rw [bne_iff_ne]; omega
    have HRR : Hid (R = false) := Lib.hid (by
      rw [← HR.out, Bool.and_eq_false_iff]
      right
      rw [decide_eq_false_iff_not]
      intro h
      exact hne (by rw [h]))
    clear hne HCA HCB
    go_wp2
    go_ret
    rw [HRR.out]
    exact ⟨rfl, HX.out⟩
  have HSH := Lib.hid (show sameH a b = true by simp [sameH, e_fl, e_md, e_inv, e_cnt, e_num, e_onl, e_qui, e_most])
  have h1 : ((l.length : Int) != (r.length : Int)) = false := by simp [hne]
  have HNE := Lib.hid hne
  rw [← e_fl] at z0
  rw [← e_md] at z1
  rw [← e_inv] at z2
  rw [← e_cnt] at z3
  rw [← e_num] at z4
  rw [← e_onl] at z5
  rw [← e_qui] at z6
  rw [← e_most] at z7
  clear hne e_fl e_md e_inv e_cnt e_num e_onl e_qui e_most h_fl h_md h_inv h_cnt h_num h_onl h_qui h_most
  go_wp2
  clear g0 g1 g2 g3 g4 g5 g6 g7 z0 z1 z2 z3 z4 z5 z6 z7 h1
  go_loopw [5] (fun i wr => ∃ k : Nat, k ≤ l.length ∧ i = .int .i64 k ∧ Ext w2 wr ∧ Hid (l.take k = r.take k)) (fun i _ => l.length - (intOf i).toNat)
  case atStart => exact ⟨0, Nat.zero_le _, rfl, Ext.refl _, Lib.hid rfl⟩
  case round =>
    obtain ⟨k, hk, rfl, hx, HT⟩ := hrel
    have g8' := hx.cell g8
    by_cases hlt : k < l.length
    · have hlt2 : k < r.length := by have := HNE.out; omega
      obtain ⟨g, o, rfl, hc1⟩ := HCA.out k hlt
      obtain ⟨g2, o2, rfl, hc2⟩ := HCB.out k hlt2
      have p1 := cell_plus ((HX.out.trans hx).cell hc1)
      have s8 := cell_plus (hx.cell g8)
      have t8 := cell_plus (hx.cell z8)
      have p2 := cell_plus ((HX.out.trans hx).cell hc2)
      have e1 : l.getD k ⟨#[]⟩ = l[k] := by rw [List.getD_eq_getElem?_getD, List.getElem?_eq_getElem hlt]; rfl
      have e2 : r.getD k ⟨#[]⟩ = r[k] := by rw [List.getD_eq_getElem?_getD, List.getElem?_eq_getElem hlt2]; rfl
      rw [e1] at p1
      rw [e2] at p2
      have q2 : (k : Int) < (r.length : Int) := by omega
      by_cases he : l[k] = r[k]
      · have HN : Hid (l.take (k + 1) = r.take (k + 1)) := Lib.hid (by rw [List.take_succ_eq_append_getElem hlt, List.take_succ_eq_append_getElem hlt2, HT.out, he])
        rw [← he] at p2
        have HXR := Lib.hid hx
        clear e1 e2 hc1 hc2 he HT HCA HCB
        generalize l[k] = x at *
        have hxx : (x.toList != x.toList) = false := by simp
        go_wp2
        refine wp_region_plus (by kernel_rfl) (by kernel_rfl) ?_
        repeat (go_big_quiet_step (fail))
        refine wpQuiet_nil ?_
        intro y
        go_wp2
        go_roundw
        case rel => exact ⟨k + 1, hlt, by go_num, HXR.out.trans (plus_ext _ y), HN⟩
        case measure => simp [intOf]; omega
      · have HRR : Hid (R = false) := Lib.hid (by
          rw [← HR.out, HSH.out, Bool.true_and, decide_eq_false_iff_not]
          intro h
          subst h
          exact he rfl)
        have HXR := Lib.hid hx
        clear e1 e2 hc1 hc2 HT HCA HCB
        generalize l[k] = x at *
        generalize r[k] = x2 at *
        have hxx : (x.toList != x2.toList) = true := by
          rw [bne_iff_ne]
          intro h
          rw [ByteArray.toList_eq, ByteArray.toList_eq] at h
          exact he (byB_inj h)
        have hx2 : (x.toList == x2.toList) = false := by simpa using hxx
        have hx3 : ¬ x.toList = x2.toList := by simpa using hxx
        clear he
        go_wp2
        refine wp_region_plus (by kernel_rfl) (by kernel_rfl) ?_
        repeat (go_big_quiet_step (fail))
        refine wpQuiet_nil ?_
        intro y
        go_wp2
        go_ret
        rw [HRR.out]
        exact ⟨rfl, HX.out.trans (HXR.out.trans (plus_ext _ y))⟩
    · have HRR : Hid (R = true) := Lib.hid (by
        rw [← HR.out, HSH.out, Bool.true_and, decide_eq_true_eq]
        have := HT.out
        rwa [List.take_of_length_le (by omega), List.take_of_length_le (by have := HNE.out; omega)] at this)
      have q1 : ¬ (k : Int) < (l.length : Int) := by omega
      clear HCA HCB
      go_wp2
      go_ret
      rw [HRR.out]
      exact ⟨rfl, HX.out.trans hx⟩

end Go.Proofs.YtkcgbdoplhgbmaaDoor
