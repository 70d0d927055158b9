/- rank.parse as a contract: whether a parse is one of a right tree. Condition: both lie in memory; the scene is a new one of at most a million bytes. -/
import Derived.Test.YthddlhpndaffjaaDoorRkB
namespace Go.Proofs.YthddlhpndaffjaaDoor
open Go Go.RowKit

section
variable {s : ByteArray} {c e : Int} {x : Value}
theorem new_begin (s : ByteArray) (c e i : Int) : sBegin (mkAt s c e s.size) i = srB s c e false i := (new_tells s c e i).2.1
theorem new_end (s : ByteArray) (c e i : Int) : sEnd (mkAt s c e s.size) i = srE s c e false i := (new_tells s c e i).2.2.1

set_option maxRecDepth 100000 in
set_option maxHeartbeats 8000000 in
theorem parse_one (d : Pd) (ps : List Ps) (IH : ∀ q ∈ ps, ParseOf s c e x q) (hlen : ps.length ≤ 1000000) (hs : s.size ≤ 1000000) : ParseOf s c e x (.mk d ps) := by
  intro n svn svp w hn hp hf hS
  obtain ⟨h, subs⟩ := n
  obtain ⟨A, c1, rfl⟩ := hp.shape
  obtain ⟨A', c2, rfl⟩ := hn.shape
  simp only [Ps.subs, Nd.subs, Ps.d, Nd.h] at *
  have hcase := form_cases hf
  have HI := Lib.hid (show ∀ W, Ext w W → 5 ≤ h.kind → Calls Tryd.prog 91 #[nodeV h (.slice A' subs.length c2), x, psV d (.slice A ps.length c1)] W fun r w' => r = .returned (.bool (okB h subs.length d ps && rowN s.size (leafB s c e) ps (ndsOf h subs d ps.length) d.a d.b)) ∧ Ext W w' from
    fun W hW hk => inner_any h subs _ d ps _ W IH (hn.ext hW) (hp.ext hW) hf (hS.ext hW) hlen hk)
  have hm : (mkAt s c e s.size).length ≤ 10000000 := by rw [mkAt_len]; omega
  have HL := Lib.hid (fun W (hW : Ext w W) => len_any x s _ W (hS.ext hW))
  have HB := Lib.hid (fun W (hW : Ext w W) => begin_any x s _ d.a W hm (hS.ext hW))
  have HE := Lib.hid (fun W (hW : Ext w W) => end_any x s _ d.a W hm (hS.ext hW))
  have HY := Lib.hid (fun W (hW : Ext w W) => byte_any x s _ d.a W (hS.ext hW))
  rw [new_begin] at HB
  rw [new_end] at HE
  have HR : ∃ res, Hid (res = parseN s.size (leafB s c e) (.mk d ps) (.mk h subs)) := ⟨_, Lib.hid rfl⟩
  obtain ⟨res, HR⟩ := HR
  rw [← HR.out]
  rw [parseN] at HR
  have HRo : ∃ inn, Hid (inn = (okB h subs.length d ps && rowN s.size (leafB s c e) ps (ndsOf h subs d ps.length) d.a d.b)) := ⟨_, Lib.hid rfl⟩
  obtain ⟨inn, HRo⟩ := HRo
  rw [← HRo.out] at HR HI
  obtain ⟨lf, HLf⟩ : ∃ lf, Hid (lf = leafB s c e h d.a d.b) := ⟨_, Lib.hid rfl⟩
  rw [← HLf.out] at HR
  unfold leafB at HLf
  clear HRo IH hf hp hn hS
  go_enter Tryd.func66, Tryd.ntmps66
  go_upto_region 1 with (first
    | (refine wpl_boxNd rfl _ rfl h _ rfl ?_; intro z w1 hb hx1 ex sx)
    | (refine wpl_boxPs rfl _ rfl d _ rfl ?_; intro y w2 hc hx2 ey sy))
  have hb2 := hb.ext hx2
  have hx12 := hx1.trans hx2
  clear hb hx1 hx2 ex sx ey sy
  go_cut [36] (fun v wx => v = .bool (!guardP s.size h.kind d) ∧ Ext w2 wx)
  case first =>
    have q0 := cell_plus (show w2.cell? ⟨y, 0, none⟩ = some (.int .i64 d.a) from hc.cell 0)
    have q1 := cell_plus (show w2.cell? ⟨y, 1, none⟩ = some (.int .i64 d.b) from hc.cell 1)
    have q2 := cell_plus (show w2.cell? ⟨y, 2, none⟩ = some (.int .i64 d.k) from hc.cell 2)
    have m0 := cell_plus (show w2.cell? ⟨z, 0, none⟩ = some (.int .i64 h.kind) from hb2.cell 0)
    have HG := Lib.hid (show guardP s.size h.kind d = (decide (0 ≤ d.a) && decide (d.a ≤ d.b) && decide (d.b ≤ (s.size : Int)) && (decide (d.k = 0) || decide (h.kind = 6))) from rfl)
    clear HR HI HB HE HY HLf hcase hb2 hc
    generalize guardP s.size h.kind d = gp at *
    generalize d.a = a at *
    generalize d.b = b at *
    generalize d.k = k at *
    generalize h.kind = kind at *
    by_cases t1 : a < 0
    case' pos =>
      have e1 : decide (a < 0) = true := decide_eq_true t1
      have FIN := Lib.hid (show gp = false by rw [HG.out, decide_eq_false (by omega : ¬ 0 ≤ a)]; rfl)
    case' neg =>
      have e1 : decide (a < 0) = false := decide_eq_false t1
      by_cases t2 : b < a
      case' pos =>
        have e2 : decide (b < a) = true := decide_eq_true t2
        have FIN := Lib.hid (show gp = false by rw [HG.out, decide_eq_false (by omega : ¬ a ≤ b)]; simp)
      case' neg =>
        have e2 : decide (b < a) = false := decide_eq_false t2
        by_cases t3 : (s.size : Int) < b
        case' pos =>
          have e3 : decide ((s.size : Int) < b) = true := decide_eq_true t3
          have FIN := Lib.hid (show gp = false by rw [HG.out, decide_eq_false (by omega : ¬ b ≤ (s.size : Int))]; simp)
        case' neg =>
          have e3 : decide ((s.size : Int) < b) = false := decide_eq_false t3
          by_cases t4 : k = 0
          case' pos =>
            have e4 : (k != 0) = false := by simpa using t4
            have FIN := Lib.hid (show gp = true by rw [HG.out, decide_eq_true (by omega : 0 ≤ a), decide_eq_true (by omega : a ≤ b), decide_eq_true (by omega : b ≤ (s.size : Int)), decide_eq_true t4]; rfl)
          case' neg =>
            have e4 : (k != 0) = true := by simpa using t4
            by_cases t5 : kind = 6
            case' pos =>
              have e5 : (kind != 6) = false := by simpa using t5
              have FIN := Lib.hid (show gp = true by rw [HG.out, decide_eq_true (by omega : 0 ≤ a), decide_eq_true (by omega : a ≤ b), decide_eq_true (by omega : b ≤ (s.size : Int)), decide_eq_true t5]; simp)
            case' neg =>
              have e5 : (kind != 6) = true := by simpa using t5
              have FIN := Lib.hid (show gp = false by rw [HG.out, decide_eq_false t4, decide_eq_false t5]; simp)
    all_goals
      clear HG
      try clear t1
      try clear t2
      try clear t3
      try clear t4
      try clear t5
      refine wp_region_plus (by kernel_rfl) (by kernel_rfl) ?_
      repeat (go_big_quiet_step ((go_at_call 90; exact Calls.plus_of_same (HL.out _ (hx12.trans (plus_ext _ _))))))
      refine wpQuiet_nil ?_
      intro v
      clear q0 q1 q2 m0
      go_wp2
      go_meet
      case rel => exact ⟨by rw [FIN.out]; rfl, plus_ext _ v⟩
  obtain ⟨rfl, hxx⟩ := hcut
  rename World => wx
  replace hb2 := hb2.ext hxx
  replace hc := hc.ext hxx
  replace hx12 := hx12.trans hxx
  clear hxx HL
  cases hg : guardP s.size h.kind d
  · have FIN := Lib.hid (show res = false by rw [HR.out, hg, Bool.false_and])
    clear HR HI HB HE HY HLf hcase hb2 hc hg
    go_wp2
    go_ret
    exact ⟨by rw [FIN.out]; rfl, hx12⟩
  have hg' := hg
  unfold guardP at hg'
  simp only [Bool.and_eq_true, decide_eq_true_eq] at hg'
  obtain ⟨⟨⟨g1, g2⟩, g3⟩, _⟩ := hg'
  have HR1 := Lib.hid (show res = (if 5 ≤ h.kind then inn else decide (ps.length = 0) && lf) by rw [HR.out, hg, Bool.true_and])
  clear HR hg
  have n0 : wx.cell? ⟨z, 0, none⟩ = some (.int .i64 h.kind) := hb2.cell 0
  have p0 : wx.cell? ⟨y, 0, none⟩ = some (.int .i64 d.a) := hc.cell 0
  have p1 : wx.cell? ⟨y, 1, none⟩ = some (.int .i64 d.b) := hc.cell 1
  have p3 : wx.cell? ⟨y, 3, none⟩ = some (.slice A ps.length c1) := hc.cell 3
  by_cases hk5 : 5 ≤ h.kind
  · have HI2 := Lib.hid (fun W hW => HI.out W hW hk5)
    have FIN := Lib.hid (HR1.out.trans (if_pos hk5))
    have hk : h.kind = 5 ∨ h.kind = 6 ∨ h.kind = 7 ∨ h.kind = 8 := by omega
    have HNA := Lib.hid hb2.nd
    have HPA := Lib.hid hc.ps
    clear HR1 HI HB HE HY HLf hcase hb2 hc p0 p1 p3 hk5
    rcases hk with hk | hk | hk | hk
    all_goals
      rw [hk] at n0
      clear hk
      go_wp2_with (first
        | (refine wpl_loadNd rfl _ rfl z 0 h _ rfl HNA.out ?_)
        | (refine wpl_loadPs rfl _ rfl y 0 d _ rfl HPA.out ?_)
        | (go_at_call 91; refine (HI2.out _ hx12).mono ?_; rintro e w3 ⟨rfl, hx3⟩))
      go_ret
      exact ⟨by rw [FIN.out]; rfl, hx12.trans hx3⟩
  have hk : h.kind = 1 ∨ h.kind = 2 ∨ h.kind = 3 ∨ h.kind = 4 := by omega
  have HR2 := Lib.hid (HR1.out.trans (if_neg hk5))
  clear HR1 HI hk5 hcase
  by_cases hl : ps.length = 0
  case neg =>
    have FIN := Lib.hid (show res = false by rw [HR2.out, decide_eq_false hl]; rfl)
    have e1 : ((ps.length : Int) != 0) = true := by rw [bne_iff_ne]; omega
    clear HR2 HB HE HY HLf hb2 hc p0 p1 hl
    rcases hk with hk | hk | hk | hk
    all_goals
      rw [hk] at n0
      clear hk
      go_wp2
      go_ret
      exact ⟨by rw [FIN.out]; rfl, hx12⟩
  have HR3 := Lib.hid (show res = lf by rw [HR2.out, decide_eq_true hl]; rfl)
  have e1 : ((ps.length : Int) != 0) = false := by rw [hl]; rfl
  clear HR2 hl
  have HQ := Lib.hid (show ∀ a b : Int, decide (a = b) = (a == b) from fun a b => by rw [Bool.eq_iff_iff]; simp)
  rcases hk with hk | hk | hk | hk
  · -- nothing
    have FIN := Lib.hid (show res = (d.a == d.b) by rw [HR3.out, HLf.out, if_neg (by omega), if_neg (by omega), if_neg (by omega)]; exact HQ.out _ _)
    rw [hk] at n0
    clear HR3 HLf HB HE HY hb2 hc hk
    generalize d.a = a at *
    generalize d.b = b at *
    go_wp2
    go_ret
    exact ⟨by rw [FIN.out]; rfl, hx12⟩
  · -- a byte
    have HR4 := Lib.hid (show res = (decide (d.a < s.size) && decide (d.b = d.a + 1) && h.set (s.data.toList.getD d.a.toNat 0).toNat) by rw [HR3.out, HLf.out, if_neg (by omega), if_neg (by omega), if_pos hk])
    have n1 : wx.cell? ⟨z, 1, none⟩ = some (u64v (wd h.set 0)) := hb2.cell 1
    have n2 : wx.cell? ⟨z, 2, none⟩ = some (u64v (wd h.set 1)) := hb2.cell 2
    have n3 : wx.cell? ⟨z, 3, none⟩ = some (u64v (wd h.set 2)) := hb2.cell 3
    have n4 : wx.cell? ⟨z, 4, none⟩ = some (u64v (wd h.set 3)) := hb2.cell 4
    rw [hk] at n0
    clear HR3 HLf HB HE hb2 hc hk
    generalize h.set = st at *
    generalize d.a = a at *
    generalize d.b = b at *
    have hw : IntKind.i64.wrap (a + 1) = a + 1 := by rw [IntKind.wrap_i64]; omega
    by_cases t1 : a < s.size
    case neg =>
      have FIN := Lib.hid (show res = false by rw [HR4.out, decide_eq_false t1]; rfl)
      have e2 : sHas s a = false := by unfold sHas; simp; omega
      rw [e2] at HY
      clear HR4 t1 e2 n1 n2 n3 n4
      go_wp2_with (go_at_call 94; refine (HY.out _ hx12).mono ?_; rintro e w3 ⟨rfl, rfl⟩)
      go_ret
      exact ⟨by rw [FIN.out]; rfl, hx12⟩
    have e2 : sHas s a = true := by unfold sHas; simp; omega
    have e3 : sByte s a = ((s.data.toList.getD a.toNat 0).toNat : Int) := by unfold sByte; rw [if_pos ⟨g1, t1⟩]
    have hbl := (s.data.toList.getD a.toNat 0).toNat_lt
    rw [e2, e3] at HY
    clear e2 e3
    generalize (s.data.toList.getD a.toNat 0).toNat = byt at *
    have HH := Lib.hid (fun W => has_any st byt W hbl)
    have HR5 := Lib.hid (show res = (decide (b = a + 1) && st byt) by rw [HR4.out, decide_eq_true t1, Bool.true_and])
    clear HR4 t1
    by_cases t2 : b = a + 1
    · have FIN := Lib.hid (show res = st byt by rw [HR5.out, decide_eq_true t2, Bool.true_and])
      have e4 : (b == a + 1) = true := by simpa using t2
      clear HR5 t2
      unfold setV at HH
      go_wp2_with (first
        | (go_at_call 94; refine (HY.out _ hx12).mono ?_; rintro e w3 ⟨rfl, rfl⟩)
        | (go_at_call 95; refine (HH.out _).mono ?_; rintro e w4 ⟨rfl, hx4⟩))
      go_ret
      exact ⟨by rw [FIN.out]; rfl, hx12.trans hx4⟩
    · have FIN := Lib.hid (show res = false by rw [HR5.out, decide_eq_false t2]; rfl)
      have e4 : (b == a + 1) = false := by simpa using t2
      clear HR5 t2 HH n1 n2 n3 n4
      go_wp2_with (go_at_call 94; refine (HY.out _ hx12).mono ?_; rintro e w3 ⟨rfl, rfl⟩)
      go_ret
      exact ⟨by rw [FIN.out]; rfl, hx12⟩
  · -- a beginning
    have HR4 := Lib.hid (show res = ((d.a == d.b) && srB s c e false d.a) by rw [HR3.out, HLf.out, if_pos hk, HQ.out])
    rw [hk] at n0
    clear HR3 HLf HE HY hb2 hc hk
    generalize srB s c e false d.a = bb at *
    generalize d.a = a at *
    generalize d.b = b at *
    by_cases t : a = b
    · have e4 : (a == b) = true := by simpa using t
      have FIN := Lib.hid (show res = bb by rw [HR4.out, e4, Bool.true_and])
      clear HR4 t
      go_wp2_with (go_at_call 92; refine (HB.out _ hx12).mono ?_; rintro e w3 ⟨rfl, rfl⟩)
      go_ret
      exact ⟨by rw [FIN.out]; rfl, hx12⟩
    · have e4 : (a == b) = false := by simpa using t
      have FIN := Lib.hid (show res = false by rw [HR4.out, e4]; rfl)
      clear HR4 t
      go_wp2
      go_ret
      exact ⟨by rw [FIN.out]; rfl, hx12⟩
  · -- an end
    have HR4 := Lib.hid (show res = ((d.a == d.b) && srE s c e false d.a) by rw [HR3.out, HLf.out, if_neg (by omega), if_pos hk, HQ.out])
    rw [hk] at n0
    clear HR3 HLf HB HY hb2 hc hk
    generalize srE s c e false d.a = bb at *
    generalize d.a = a at *
    generalize d.b = b at *
    by_cases t : a = b
    · have e4 : (a == b) = true := by simpa using t
      have FIN := Lib.hid (show res = bb by rw [HR4.out, e4, Bool.true_and])
      clear HR4 t
      go_wp2_with (go_at_call 93; refine (HE.out _ hx12).mono ?_; rintro e w3 ⟨rfl, rfl⟩)
      go_ret
      exact ⟨by rw [FIN.out]; rfl, hx12⟩
    · have e4 : (a == b) = false := by simpa using t
      have FIN := Lib.hid (show res = false by rw [HR4.out, e4]; rfl)
      clear HR4 t
      go_wp2
      go_ret
      exact ⟨by rw [FIN.out]; rfl, hx12⟩

theorem parse_any (hs : s.size ≤ 1000000) : ∀ p : Ps, smallP p → ParseOf s c e x p := Ps.ind fun d ps ih hsm => parse_one d ps (fun q hq => ih q hq (smallPL_mem hsm.2 q hq)) hsm.1 hs
end

end Go.Proofs.YthddlhpndaffjaaDoor
