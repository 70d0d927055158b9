/- rank.spans and rank.admitted as contracts; loads of nodes and parses in drawn regions that only grow. Condition: the parse lies in memory. -/
import Derived.Test.YthddlhpndaffjaaDoorRkP
import Derived.Test.YthddlhpndaffjaaDoorPsW
import Derived.Test.YthddlhpndaffjaaDoorTail
import Derived.Test.YthddlhpndaffjaaDoorSetC
import Derived.BigQuiet
namespace Go.Proofs.YthddlhpndaffjaaDoor
open Go Go.RowKit

section
variable {o : Oper} {a : Act} {w0 : World}
theorem PsAt.plus {w : World} {g k : Nat} {d : Pd} {sv : Value} (h : PsAt w g k d sv) (x : Ex w) : PsAt (plus w x) g k d sv := h.ext (plus_ext w x)
theorem NdAt.plus {w : World} {g k : Nat} {h : Hd} {sv : Value} (hn : NdAt w g k h sv) (x : Ex w) : NdAt (plus w x) g k h sv := hn.ext (plus_ext w x)
/-- The load of a whole parse in a drawn region that only grows. -/
theorem quiet_loadPs {K : Act → Prop} (x : Operand) (ho : o.op = .load 60 x) (g k : Nat) (d : Pd) (sv : Value) (hx : a.eval x = .pointer (some ⟨g, k, none⟩)) (hN : PsAt w0 g k d sv)
    (hK : K (a.put o.dst (psV d sv))) : o.quiet Tryd.prog a (fun w' => ∃ x : Ex w0, w' = plus w0 x) K := by
  refine ⟨psV d sv, fun w' hw' => ?_, hK⟩
  obtain ⟨y, rfl⟩ := hw'
  have hr := run_loadAt_mid (P := Tryd.prog) (plus w0 y) g k 60 (psC d sv) _ (fun j v hv => by
    have hj : j < 4 := (List.getElem?_eq_some_iff.1 hv).1
    rw [hN.plus y j hj, hv]) Tryd.underlying60 rfl info_ps
  unfold Oper.quietAt execOp
  simp only [ho, hx, Sem.run_bind, Sem.run_pure, Result.andThen_ok, hr]
  exact ⟨rfl, rfl⟩
/-- The load of a whole node in a drawn region that only grows. -/
theorem quiet_loadNd {K : Act → Prop} (x : Operand) (ho : o.op = .load 27 x) (g k : Nat) (d : Hd) (sv : Value) (hx : a.eval x = .pointer (some ⟨g, k, none⟩)) (hN : NdAt w0 g k d sv)
    (hK : K (a.put o.dst (nodeV d sv))) : o.quiet Tryd.prog a (fun w' => ∃ x : Ex w0, w' = plus w0 x) K := by
  refine ⟨nodeV d sv, fun w' hw' => ?_, hK⟩
  obtain ⟨y, rfl⟩ := hw'
  have hr := run_loadAt_mid (P := Tryd.prog) (plus w0 y) g k 27 (nodeC d sv) _ (fun j v hv => by
    have hj : j < 10 := (List.getElem?_eq_some_iff.1 hv).1
    rw [hN.plus y j hj, hv]) Tryd.underlying27 rfl info_nd
  unfold Oper.quietAt execOp
  simp only [ho, hx, Sem.run_bind, Sem.run_pure, Result.andThen_ok, hr]
  exact ⟨rfl, rfl⟩
end

set_option maxHeartbeats 400000 in
theorem spans_any (d d' : Pd) (sv sv' : Value) (w : World) :
    Calls Tryd.prog 105 #[psV d sv, psV d' sv'] w fun r w' => r = .returned (.bool (decide (d.a = d'.a ∧ d.b = d'.b))) ∧ Ext w w' := by
  have HR := Lib.hid (show decide (d.a = d'.a ∧ d.b = d'.b) = (decide (d.a = d'.a) && (d.b == d'.b)) by rw [Bool.eq_iff_iff]; simp)
  generalize decide (d.a = d'.a ∧ d.b = d'.b) = res at *
  go_enter Tryd.func105, Tryd.ntmps105
  go_upto_region 1 with (first
    | (refine wpl_boxPs rfl _ rfl d _ rfl ?_; intro x w1 hb hx1 ex sx)
    | (refine wpl_boxPs rfl _ rfl d' _ rfl ?_; intro y w2 hc hx2 ey sy))
  have hb2 := hb.ext hx2
  have hx12 := hx1.trans hx2
  clear hb hx1 hx2 ex sx ey sy
  have c0 : w2.cell? ⟨x, 0, none⟩ = some (.int .i64 d.a) := hb2.cell 0
  have c1 : w2.cell? ⟨x, 1, none⟩ = some (.int .i64 d.b) := hb2.cell 1
  have d0 : w2.cell? ⟨y, 0, none⟩ = some (.int .i64 d'.a) := hc.cell 0
  have d1 : w2.cell? ⟨y, 1, none⟩ = some (.int .i64 d'.b) := hc.cell 1
  clear hb2 hc
  generalize d.a = a at *
  generalize d.b = b at *
  generalize d'.a = a' at *
  generalize d'.b = b' at *
  by_cases h1 : a = a'
  · have HR2 := Lib.hid (show res = (b == b') by rw [HR.out, decide_eq_true h1]; rfl)
    have e1 : (a == a') = true := by simpa using h1
    clear HR h1
    go_wp2
    go_ret
    exact ⟨by rw [HR2.out]; rfl, hx12⟩
  · have HR2 := Lib.hid (show res = false by rw [HR.out, decide_eq_false h1]; rfl)
    have e1 : (a == a') = false := by simpa using h1
    clear h1 HR
    go_wp2
    go_ret
    exact ⟨by rw [HR2.out]; rfl, hx12⟩

theorem fullL_drop {ps : List Ps} {k : Nat} (h : k < ps.length) : fullL (ps.drop k) = (decide (ps[k].d.a ≠ ps[k].d.b) && fullL (ps.drop (k + 1))) := by
  rw [List.drop_eq_getElem_cons h]; rfl
theorem fullL_end {ps : List Ps} {k : Nat} (h : ps.length ≤ k) : fullL (ps.drop k) = true := by
  rw [List.drop_eq_nil_of_le h]; rfl

set_option maxRecDepth 100000 in
set_option maxHeartbeats 4000000 in
theorem admitted_any (h : Hd) (svn : Value) (d : Pd) (ps : List Ps) (svp : Value) (w : World) (hp : PsOk w (.mk d ps) svp) (hmin : 0 ≤ h.min) (hlen : ps.length ≤ 1000000) :
    Calls Tryd.prog 106 #[nodeV h svn, psV d svp] w fun r w' => r = .returned (.bool (admB h d ps)) ∧ Ext w w' := by
  obtain ⟨A, c, rfl⟩ := hp.shape
  simp only [Ps.subs] at *
  have HP := Lib.hid hp
  have HR := Lib.hid (show admB h d ps = (decide (h.min ≤ ps.length) && (decide (h.max < 0) || decide (ps.length ≤ h.max)) && (if h.min = 0 ∧ ps.length = 1 ∧ d.a = d.b then !h.bare else fullL (ps.drop h.min.toNat))) from rfl)
  clear hp
  generalize admB h d ps = res at *
  go_enter Tryd.func106, Tryd.ntmps106
  go_upto_region 1 with (first
    | (refine wpl_boxNd rfl _ rfl h _ rfl ?_; intro x w1 hb hx1 ex sx)
    | (refine wpl_boxPs rfl _ rfl d _ rfl ?_; intro y w2 hc hx2 ey sy))
  have hb2 := hb.ext hx2
  have hx12 := hx1.trans hx2
  clear hb hx1 hx2 ex sx ey sy
  have c4 : w2.cell? ⟨x, 7, none⟩ = some (.int .i64 h.min) := hb2.cell 7
  have c5 : w2.cell? ⟨x, 8, none⟩ = some (.int .i64 h.max) := hb2.cell 8
  have c6 : w2.cell? ⟨x, 9, none⟩ = some (.bool h.bare) := hb2.cell 9
  have d0 : w2.cell? ⟨y, 0, none⟩ = some (.int .i64 d.a) := hc.cell 0
  have d1 : w2.cell? ⟨y, 1, none⟩ = some (.int .i64 d.b) := hc.cell 1
  have d3 : w2.cell? ⟨y, 3, none⟩ = some (.slice A ps.length c) := hc.cell 3
  clear hb2 hc
  generalize h.min = mn at *
  generalize h.max = mx at *
  generalize h.bare = bare at *
  generalize d.a = a at *
  generalize d.b = b at *
  by_cases h1 : (ps.length : Int) < mn
  · have FIN := Lib.hid (show res = false by rw [HR.out, decide_eq_false (by omega : ¬ mn ≤ (ps.length : Int))]; rfl)
    clear HR HP
    go_wp2
    go_ret
    exact ⟨by rw [FIN.out]; rfl, hx12⟩
  by_cases h2 : 0 ≤ mx ∧ mx < (ps.length : Int)
  · obtain ⟨h2, h3⟩ := h2
    have FIN := Lib.hid (show res = false by
      rw [HR.out, decide_eq_false (by omega : ¬ mx < 0), decide_eq_false (by omega : ¬ (ps.length : Int) ≤ mx)]
      simp)
    clear HR HP
    go_wp2
    go_ret
    exact ⟨by rw [FIN.out]; rfl, hx12⟩
  have HR2 := Lib.hid (show res = if mn = 0 ∧ ps.length = 1 ∧ a = b then !bare else fullL (ps.drop mn.toNat) by
    rw [HR.out, decide_eq_true (by omega : mn ≤ (ps.length : Int))]
    rw [show (decide (mx < 0) || decide ((ps.length : Int) ≤ mx)) = true by simp; omega]
    rfl)
  clear HR
  go_upto_region 2 with fail
  go_cut [24] (fun v wx => v = .bool false ∧ w2 = wx)
  case first =>
    clear HR2 HP
    by_cases h3 : 0 ≤ mx
    · have h4 : ¬ mx < (ps.length : Int) := fun h => h2 ⟨h3, h⟩
      clear h2
      go_wp2
      go_meet
      case rel => exact ⟨rfl, rfl⟩
    · clear h2
      go_wp2
      go_meet
      case rel => exact ⟨rfl, rfl⟩
  obtain ⟨rfl, rfl⟩ := hcut
  clear h2 c5
  by_cases h3 : mn = 0 ∧ ps.length = 1 ∧ a = b
  · have HR3 := Lib.hid (HR2.out.trans (if_pos h3))
    obtain ⟨rfl, h4, rfl⟩ := h3
    have h5 : (ps.length : Int) = 1 := by omega
    have e1 : (a == a) = true := by simp
    clear HR2 HP h4
    generalize (ps.length : Int) = n at *
    subst h5
    go_wp2
    go_ret
    exact ⟨by rw [HR3.out]; rfl, hx12⟩
  have HR3 := Lib.hid (HR2.out.trans (if_neg h3))
  clear HR2
  go_upto_region 4 with fail
  go_cut [38] (fun v wx => v = .bool false ∧ w2 = wx)
  case first =>
    clear HP HR3
    have e5 : ((ps.length : Int) == 1) = decide (ps.length = 1) := by
      by_cases h : ps.length = 1
      · simp [h]
      · have : ¬ (ps.length : Int) = 1 := by omega
        simp [h, this]
    by_cases h4 : mn = 0
    · subst h4
      by_cases h5 : ps.length = 1
      · have h6 : (a == b) = false := by
          rw [beq_eq_false_iff_ne]
          exact fun h => h3 ⟨rfl, h5, h⟩
        rw [decide_eq_true h5] at e5
        clear h3 h5
        go_wp2
        go_meet
        case rel => exact ⟨rfl, rfl⟩
      · rw [decide_eq_false h5] at e5
        clear h3 h5
        go_wp2
        go_meet
        case rel => exact ⟨rfl, rfl⟩
    · have h6 : (mn == 0) = false := by simpa using h4
      clear h3 h4 e5
      go_wp2
      go_meet
      case rel => exact ⟨rfl, rfl⟩
  obtain ⟨rfl, rfl⟩ := hcut
  clear h3 c6 d0 d1
  go_upto_region 7 with fail
  clear c4
  have hx22 := Ext.refl w2
  obtain ⟨m, rfl⟩ := Int.eq_ofNat_of_zero_le hmin
  rw [Int.toNat_natCast] at HR3
  go_loopw [6] (fun i wr => ∃ k : Nat, k ≤ ps.length ∧ i = .int .i64 k ∧ Hid (res = fullL (ps.drop k)) ∧ Ext w2 wr) (fun i _ => ps.length - (intOf i).toNat)
  case atStart => exact ⟨m, by omega, rfl, HR3, hx22⟩
  case round =>
    clear hx22 HR3 hmin h1
    obtain ⟨k, hk, rfl, hr, hx⟩ := hrel
    replace hx12 := hx12.trans hx
    by_cases hlt : k < ps.length
    · obtain ⟨g, o, sv, rfl, hat, hok⟩ := HP.out.get k hlt
      obtain ⟨e0, e1, _, _⟩ := ps_cells hat hx12
      have p3 := cell_plus (hx.cell d3)
      have p0 := cell_plus e0
      have p1 := cell_plus e1
      have HST := Lib.hid (hr.out.trans (fullL_drop hlt))
      clear hat hok e0 e1 HP hr d3
      generalize ps[k] = pk at *
      generalize pk.d.a = x at *
      generalize pk.d.b = y at *
      have t1 : (k : Int) < (ps.length : Int) := by omega
      go_upto_region 9 with fail
      refine wp_region_plus (by kernel_rfl) (by kernel_rfl) ?_
      repeat (go_big_quiet_step (fail))
      refine wpQuiet_nil ?_
      intro z
      clear p0 p1 p3
      by_cases hxy : x = y
      · have e0 : (x == y) = true := by simpa using hxy
        have FIN := Lib.hid (show res = false by rw [HST.out, hxy]; simp)
        clear HST hxy
        go_wp2
        go_ret
        exact ⟨by rw [FIN.out]; rfl, hx12.trans (plus_ext _ z)⟩
      · have e0 : (x == y) = false := by simpa using hxy
        have HS2 := Lib.hid (show res = fullL (ps.drop (k + 1)) by rw [HST.out]; simp [hxy])
        clear HST hxy
        go_wp2
        go_roundw
        case rel => exact ⟨k + 1, by omega, by go_num, HS2, hx.trans (plus_ext _ z)⟩
        case measure => simp [intOf]; omega
    · have t1 : ¬ (k : Int) < (ps.length : Int) := by omega
      have FIN := Lib.hid (hr.out.trans (fullL_end (by omega)))
      clear HP hr
      go_wp2
      go_ret
      exact ⟨by rw [FIN.out]; rfl, hx12⟩

end Go.Proofs.YthddlhpndaffjaaDoor
