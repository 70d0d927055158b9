/- trawlref12.is as a contract: whether a parse is one of a right tree. Condition: both lie in memory; the subject has at most a million bytes. trawlref04.used as a contract; one cell, or the set, stored into a node of the call's own. No condition. trawlref04's form in plain words: what it asks of a node is what tree asks. No program. trawlref04.Form as a contract. Condition: the tree lies in memory, its lists are short. -/
import Derived.Test.YthddlhpndaffjaaDoorZRankChecksAD
import Derived.Test.YthddlhpndaffjaaDoorZRankChecksAE
import Derived.Test.YthddlhpndaffjaaDoorNodeS
namespace Go.Proofs.YthddlhpndaffjaaDoor
open Go Go.RowKit

section
variable {s : ByteArray} {c e : Int}
/-- What the contract of is says of one parse. -/
def IsOf (s : ByteArray) (c e : Int) (q : Ps) : Prop := ∀ (n : Nd) (svn svq : Value) (W : World), NdCap W n svn → PsOk W q svq → formB n = true → smallN n →
  Calls Tryd.prog 67 #[nodeV n.h svn, srV s c e false, psV q.d svq] W fun r w' => r = .returned (.bool (parseN s.size (leafB s c e) q n)) ∧ Ext W w'

set_option maxRecDepth 100000 in
set_option maxHeartbeats 8000000 in
theorem is_one (d : Pd) (ps : List Ps) (IH : ∀ q ∈ ps, IsOf s c e q) (hlen : ps.length ≤ 1000000) (hs : s.size ≤ 1000000) : IsOf s c e (.mk d ps) := by
  intro n svn svp w hn hp hf hsm
  obtain ⟨h, subs⟩ := n
  obtain ⟨A, c1, rfl⟩ := hp.shape
  obtain ⟨A', c2, rfl⟩ := hn.ok.shape
  obtain ⟨hsl, hsml⟩ := hsm
  simp only [Ps.subs, Nd.subs] at *
  have hcase := form_cases hf
  have hsub := form_sub hf
  have HSub := Lib.hid (fun W (hW : Ext w W) => subs_any h subs _ d ps _ W (hn.ext hW) (hp.ext hW) hf hlen hsl)
  have HRow := Lib.hid (fun W (hW : Ext w W) => row_any d ps A ps.length c1 d.a d.b W (hp.ext hW) hlen)
  have HI := Lib.hid (fun q (hq : q ∈ ps) n (hn : n ∈ subs) svn svq W h1 h2 => IH q hq n svn svq W h1 h2 (hsub n hn) (smallL_mem hsml n hn))
  have HNo := Lib.hid (fun (hk : 5 ≤ h.kind) (h1 : okR h subs.length d ps = false) => (is_inner_no (sz := s.size) (L := leafB s c e) h subs d ps hf hk h1))
  have HYes := Lib.hid (fun (hk : 5 ≤ h.kind) (h1 : okR h subs.length d ps = true) => (is_inner (sz := s.size) (L := leafB s c e) h subs d ps hf hk h1))
  have HNm := Lib.hid (fun (hk : 5 ≤ h.kind) (h1 : okR h subs.length d ps = true) => ndsOf_mem h subs d ps hf hk h1)
  have HNl := Lib.hid (fun (hk : 5 ≤ h.kind) (h1 : okR h subs.length d ps = true) => ndsOf_len h subs d ps hf hk h1)
  have HTk := Lib.hid (fun (hk : 1 ≤ h.kind ∧ h.kind ≤ 4) (h1 : 0 ≤ d.a) (h2 : d.a ≤ d.b) (h3 : d.b ≤ s.size) W => takes_leaf s c e h (.slice A' subs.length c2) d.a d.b W hk h1 h2 h3 hs)
  have HP := Lib.hid hp
  obtain ⟨res, HR⟩ : ∃ res, Hid (res = parseN s.size (leafB s c e) (.mk d ps) (.mk h subs)) := ⟨_, Lib.hid rfl⟩
  show Calls _ _ #[nodeV h _, _, psV d _] _ _
  rw [← HR.out]
  rw [parseN] at HR
  have hOk0 : ∀ (hk : ¬ 5 ≤ h.kind), okR h subs.length d ps = decide (ps.length = 0) := fun hk => by unfold okR; rw [if_neg (by omega), if_neg (by omega), if_neg (by omega), if_neg (by omega)]
  have HOk0 := Lib.hid hOk0
  have HNil := Lib.hid (show ∀ hk : 5 ≤ h.kind, (if h.kind < 5 then ([] : List Nd) else ndsOf h subs d ps.length) = ndsOf h subs d ps.length from fun hk => if_neg (by omega))
  clear IH hsub hf hp hn hsml hOk0
  unfold srV at *
  go_enter Tryd.func67, Tryd.ntmps67
  go_upto_region 1 with (first
    | (refine wpl_boxNd rfl _ rfl h _ rfl ?_; intro z w1 hb hx1 ex sx)
    | (refine wpl_boxPs rfl _ rfl d _ rfl ?_; intro y w2 hc hx2 ey sy))
  have K4 := (Blk.new w1 65 #[.string s, .int .i64 c, .int .i64 e, .bool false]).ext hx2
  have hx12 := (hx1.alloc (.cells #[.string s, .int .i64 c, .int .i64 e, .bool false] 65)).trans hx2
  replace hb := (hb.ext ((Ext.refl w1).alloc (.cells #[.string s, .int .i64 c, .int .i64 e, .bool false] 65))).ext hx2
  generalize w1.heap.size = u at *
  clear hx1 hx2 ex sx ey sy
  go_cut [39] (fun v wx => v = .bool (!guardP s.size h.kind d) ∧ w2 = wx)
  case first =>
    have k0 : w2.cell? ⟨u, 0, none⟩ = some (.string s) := K4.cell 0
    have q0 : w2.cell? ⟨y, 0, none⟩ = some (.int .i64 d.a) := hc.cell 0
    have q1 : w2.cell? ⟨y, 1, none⟩ = some (.int .i64 d.b) := hc.cell 1
    have q2 : w2.cell? ⟨y, 2, none⟩ = some (.int .i64 d.k) := hc.cell 2
    have m0 : w2.cell? ⟨z, 0, none⟩ = some (.int .i64 h.kind) := hb.cell 0
    have HG := Lib.hid (show guardP s.size h.kind d = (decide (0 ≤ d.a) && decide (d.a ≤ d.b) && decide (d.b ≤ (s.size : Int)) && (decide (d.k = 0) || decide (h.kind = 6))) from rfl)
    clear HR HI HSub HRow HNo HYes HTk HP HOk0 HNil HNm HNl hcase hb hc K4
    generalize guardP s.size h.kind d = gp at *
    generalize d.a = a at *
    generalize d.b = b at *
    generalize d.k = k at *
    generalize h.kind = kind at *
    by_cases t1 : a < 0
    case' pos =>
      have FIN := Lib.hid (show gp = false by rw [HG.out, decide_eq_false (by omega : ¬ 0 ≤ a)]; rfl)
    case' neg =>
      by_cases t2 : b < a
      case' pos =>
        have FIN := Lib.hid (show gp = false by rw [HG.out, decide_eq_false (by omega : ¬ a ≤ b)]; simp)
      case' neg =>
        by_cases t3 : (s.size : Int) < b
        case' pos =>
          have FIN := Lib.hid (show gp = false by rw [HG.out, decide_eq_false (by omega : ¬ b ≤ (s.size : Int))]; simp)
        case' neg =>
          by_cases t5 : kind = 6
          case' pos =>
            have e5 : (kind != 6) = false := by simpa using t5
            have FIN := Lib.hid (show gp = true by rw [HG.out, decide_eq_true (by omega : 0 ≤ a), decide_eq_true (by omega : a ≤ b), decide_eq_true (by omega : b ≤ (s.size : Int)), decide_eq_true t5]; simp)
            clear t5
          case' neg =>
            have e5 : (kind != 6) = true := by simpa using t5
            by_cases t4 : k = 0
            case' pos =>
              have e4 : (k != 0) = false := by simpa using t4
              have FIN := Lib.hid (show gp = true by rw [HG.out, decide_eq_true (by omega : 0 ≤ a), decide_eq_true (by omega : a ≤ b), decide_eq_true (by omega : b ≤ (s.size : Int)), decide_eq_true t4]; rfl)
              clear t4 t5
            case' neg =>
              have e4 : (k != 0) = true := by simpa using t4
              have FIN := Lib.hid (show gp = false by rw [HG.out, decide_eq_false t4, decide_eq_false t5]; simp)
              clear t4 t5
    all_goals
      clear HG
      go_wp2
      go_meet
      case rel => exact ⟨by rw [FIN.out]; rfl, rfl⟩
  obtain ⟨rfl, rfl⟩ := hcut
  cases hg : guardP s.size h.kind d
  · have FIN := Lib.hid (show res = false by rw [HR.out, hg, Bool.false_and])
    clear HR HI HSub HRow HNo HYes HTk HP HOk0 HNil HNm HNl hcase hb hc K4 hg
    go_wp2
    go_ret
    exact ⟨by rw [FIN.out]; rfl, hx12⟩
  have hg' := hg
  unfold guardP at hg'
  simp only [Bool.and_eq_true, decide_eq_true_eq] at hg'
  obtain ⟨⟨⟨g1, g2⟩, g3⟩, _⟩ := hg'
  have HR1 := Lib.hid (show res = (if 5 ≤ h.kind then okB h subs.length d ps && rowN s.size (leafB s c e) ps (ndsOf h subs d ps.length) d.a d.b else decide (ps.length = 0) && leafB s c e h d.a d.b) by rw [HR.out, hg, Bool.true_and])
  clear HR hg
  have HNA := Lib.hid hb.nd
  have HPA := Lib.hid hc.ps
  obtain ⟨ok, HOK⟩ : ∃ ok, Hid (ok = okR h subs.length d ps) := ⟨_, Lib.hid rfl⟩
  rw [← HOK.out] at HSub HNo HYes HOk0 HNm HNl
  cases ok
  · have FIN := Lib.hid (show res = false by
      rw [HR1.out]
      split
      · rename_i hk; exact HNo.out hk rfl
      · rename_i hk; rw [← HOk0.out (by omega)]; rfl)
    clear HR1 HI HRow HNo HYes HTk HP HOk0 HNil HNm HNl hcase hb hc K4 HOK
    go_wp2_with (first
      | (refine wpl_loadNd rfl _ rfl z 0 h _ rfl HNA.out ?_)
      | (refine wpl_loadPs rfl _ rfl y 0 d _ rfl HPA.out ?_)
      | (go_at_call 96; refine (HSub.out _ hx12).mono ?_; rintro e w3 ⟨v3, rfl, hv3, hx3⟩))
    go_ret
    exact ⟨by rw [FIN.out]; rfl, hx12.trans hx3⟩
  clear HNo HOK
  go_upto_region 6 with (first
    | (refine wpl_loadNd rfl _ rfl z 0 h _ rfl HNA.out ?_)
    | (refine wpl_loadPs rfl _ rfl y 0 d _ rfl HPA.out ?_)
    | (go_at_call 96; refine (HSub.out _ hx12).mono ?_; rintro e w3 ⟨v3, rfl, hv3, hx3⟩))
  replace hv3 := hv3 trivial
  replace hb := hb.ext hx3
  replace hc := hc.ext hx3
  replace K4 := K4.ext hx3
  replace hx12 := hx12.trans hx3
  clear HSub hx3 HNA HPA
  have HNA := Lib.hid hb.nd
  have n0 : w3.cell? ⟨z, 0, none⟩ = some (.int .i64 h.kind) := hb.cell 0
  have n5 : w3.cell? ⟨z, 5, none⟩ = some (.slice A' subs.length c2) := hb.cell 5
  have p0 : w3.cell? ⟨y, 0, none⟩ = some (.int .i64 d.a) := hc.cell 0
  have p1 : w3.cell? ⟨y, 1, none⟩ = some (.int .i64 d.b) := hc.cell 1
  have p3 : w3.cell? ⟨y, 3, none⟩ = some (.slice A ps.length c1) := hc.cell 3
  by_cases hk5 : 5 ≤ h.kind
  case neg =>
    have hl0 : subs.length = 0 := by omega
    have f1 : ((subs.length : Int) == 0) = true := by rw [hl0]; rfl
    have FIN := Lib.hid (show res = leafB s c e h d.a d.b by rw [HR1.out, if_neg hk5, ← HOk0.out (by omega), Bool.true_and])
    have HTk2 := Lib.hid (fun W => HTk.out (by omega) g1 g2 g3 W)
    rw [← FIN.out] at HTk2
    obtain ⟨k0, k1, k2, k3⟩ := (⟨K4.cell 0, K4.cell 1, K4.cell 2, K4.cell 3⟩ : w3.cell? ⟨u, 0, none⟩ = some (.string s) ∧ w3.cell? ⟨u, 1, none⟩ = some (.int .i64 c) ∧ w3.cell? ⟨u, 2, none⟩ = some (.int .i64 e) ∧ w3.cell? ⟨u, 3, none⟩ = some (.bool false))
    clear HR1 HI HRow HYes HTk HP HOk0 HNil HNm HNl hcase hb hc K4 hl0 p3
    generalize d.a = a at *
    generalize d.b = b at *
    go_wp2_with (first
      | (refine wpl_loadNd rfl _ rfl z 0 h _ rfl HNA.out ?_)
      | (go_at_call 97; refine (HTk2.out _).mono ?_; rintro e w4 ⟨rfl, hx4⟩))
    go_ret
    exact ⟨rfl, hx12.trans hx4⟩
  have HR2 := Lib.hid (show res = (rowB ps d.a d.b && allN s.size (leafB s c e) ps (ndsOf h subs d ps.length)) by rw [HR1.out, if_pos hk5]; exact HYes.out hk5 trivial)
  have f1 : ((subs.length : Int) == 0) = false := by rw [beq_eq_false_iff_ne]; omega
  rw [HNil.out hk5] at hv3
  have hmem := HNm.out hk5 trivial
  have hlenN := HNl.out hk5 trivial
  clear HNm HNl
  obtain ⟨nds, HND⟩ : ∃ nds, Hid (nds = ndsOf h subs d ps.length) := ⟨_, Lib.hid rfl⟩
  rw [← HND.out] at hmem hlenN hv3 HR2
  have HMem := Lib.hid hmem
  have HLN := Lib.hid hlenN
  clear hmem hlenN HND HR1 HYes HTk HOk0 HNil hb
  by_cases hl : ps.length = 0
  · have hps : ps = [] := List.eq_nil_of_length_eq_zero hl
    have f2 : ((ps.length : Int) == 0) = true := by rw [hl]; rfl
    have FIN := Lib.hid (show res = (d.a == d.b) by rw [HR2.out, hps, rowB, allN, Bool.and_true, Bool.eq_iff_iff]; simp)
    clear HR2 HI HRow HP hcase hc K4 hl hps HMem HLN hv3 n0 HNA
    generalize d.a = a at *
    generalize d.b = b at *
    go_wp2
    go_ret
    exact ⟨by rw [FIN.out]; rfl, hx12⟩
  have f2 : ((ps.length : Int) == 0) = false := by rw [beq_eq_false_iff_ne]; omega
  have f3 : (0 : Int) < (ps.length : Int) := by omega
  obtain ⟨Av, cv, rfl⟩ := hv3.ok.shape
  simp only [Nd.subs] at *
  have h0 : 0 < ps.length := by omega
  obtain ⟨g9, o9, sv9, hA9, hat9, _⟩ := HP.out.get 0 h0
  subst hA9
  obtain ⟨e0, _, _, _⟩ := ps_cells hat9 hx12
  rw [Nat.zero_mul, Nat.add_zero] at e0
  have HFst := Lib.hid (show ps[0].d.a ≠ d.a → res = false from fun hne => by
    have hd : ps = ps.drop 0 := rfl
    rw [HR2.out, hd, rowB_step h0, decide_eq_false hne]
    rfl)
  have HPA := Lib.hid hc.ps
  generalize ps[0].d.a = a0 at *
  go_upto_region 10 with fail
  go_cut [80] (fun v wx => (v = .bool false ∨ (v = .bool true ∧ res = false)) ∧ Ext w3 wx)
  case first =>
    have q0 := cell_plus p0
    have q3 := cell_plus p3
    have m0 := cell_plus n0
    have r0 := cell_plus e0
    clear HR2 HI HRow HP HMem HLN hv3 hc K4 HNA HPA n5 p0 p1 p3 n0 e0 hat9 hcase
    generalize d.a = a at *
    generalize h.kind = kind at *
    by_cases t1 : kind = 6
    · have e1 : (kind == 6) = true := by simpa using t1
      by_cases t2 : a0 = a
      · have e2 : (a0 != a) = false := by simpa using t2
        clear t1 t2 HFst
        refine wp_region_plus (by kernel_rfl) (by kernel_rfl) ?_
        repeat (go_big_quiet_step (fail))
        refine wpQuiet_nil ?_
        intro v
        go_wp2
        go_meet
        case rel => exact ⟨.inl rfl, plus_ext _ v⟩
      · have e2 : (a0 != a) = true := by simpa using t2
        have HFF := Lib.hid (HFst.out t2)
        clear t1 t2 HFst
        refine wp_region_plus (by kernel_rfl) (by kernel_rfl) ?_
        repeat (go_big_quiet_step (fail))
        refine wpQuiet_nil ?_
        intro v
        go_wp2
        go_meet
        case rel => exact ⟨.inr ⟨rfl, HFF.out⟩, plus_ext _ v⟩
    · have e1 : (kind == 6) = false := by simpa using t1
      clear t1 HFst
      refine wp_region_plus (by kernel_rfl) (by kernel_rfl) ?_
      repeat (go_big_quiet_step (fail))
      refine wpQuiet_nil ?_
      intro v
      go_wp2
      go_meet
      case rel => exact ⟨.inl rfl, plus_ext _ v⟩
  obtain ⟨hv80, hx34⟩ := hcut
  rename World => w4
  replace n0 := hx34.cell n0
  replace p0 := hx34.cell p0
  replace p1 := hx34.cell p1
  replace p3 := hx34.cell p3
  replace hv3 := hv3.ext hx34
  replace K4 := K4.ext hx34
  replace hx12 := hx12.trans hx34
  clear hx34 HNA HPA n5 e0 hat9 hcase hc HFst n0
  rcases hv80 with rfl | ⟨rfl, hres⟩
  case inr =>
    have FIN := Lib.hid hres
    clear HR2 HI HRow HP HMem HLN hv3 K4 p0 p1 p3 hres
    go_wp2
    go_ret
    exact ⟨by rw [FIN.out]; rfl, hx12⟩
  have HRow2 := Lib.hid (HRow.out w4 hx12)
  cases hrb : rowB ps d.a d.b
  · rw [hrb] at HRow2
    have FIN := Lib.hid (show res = false by rw [HR2.out, hrb]; rfl)
    clear HR2 HI HRow HP HMem HLN hv3 K4 hrb
    generalize d.a = a at *
    generalize d.b = b at *
    go_wp2_with (go_at_call 98; refine HRow2.out.mono ?_; rintro e w5 ⟨rfl, rfl⟩)
    go_ret
    exact ⟨by rw [FIN.out]; rfl, hx12⟩
  rw [hrb] at HRow2
  have HR3 := Lib.hid (show res = allN s.size (leafB s c e) (ps.drop 0) (nds.drop 0) by rw [HR2.out, hrb]; rfl)
  clear HR2 HRow hrb
  generalize d.a = a at *
  generalize d.b = b at *
  go_upto_region 16 with (go_at_call 98; refine HRow2.out.mono ?_; rintro e w5 ⟨rfl, rfl⟩)
  clear p0 p1 HRow2 f1 f2 f3
  have hx44 := Ext.refl w4
  go_loopw [10] (fun i wr => ∃ k : Nat, k ≤ ps.length ∧ i = .int .i64 k ∧ Hid (res = allN s.size (leafB s c e) (ps.drop k) (nds.drop k)) ∧ Ext w4 wr) (fun i _ => ps.length - (intOf i).toNat)
  case atStart => exact ⟨0, Nat.zero_le _, rfl, HR3, hx44⟩
  case round =>
    clear hx44 HR3
    obtain ⟨k, hk, rfl, hr, hxr⟩ := hrel
    have hxw := hx12.trans hxr
    have hln := HLN.out
    by_cases hlt : k < ps.length
    · have hkn : k < nds.length := by omega
      obtain ⟨g0, o0, svq, hA0, hat0, hok0⟩ := HP.out.get k hlt
      simp only [Option.some.injEq, Addr.mk.injEq, and_true] at hA0
      obtain ⟨rfl, rfl⟩ := hA0
      obtain ⟨g1, o1, svn, rfl, hat1, hok1⟩ := hv3.get k hkn
      have HST := Lib.hid (hr.out.trans (allN_step hlt hkn))
      have HIk := Lib.hid (HI.out ps[k] (List.getElem_mem hlt) nds[k] (HMem.out _ (List.getElem_mem hkn)) svn svq wr.drew (hok1.ext hxr.drewr) (hok0.ext hxw.drewr))
      have A0 := Lib.hid (hat0.ext hxw).drew
      have A1 := Lib.hid (hat1.ext hxr).drew
      have p3r : wr.drew.cell? ⟨y, 3, none⟩ = some (.slice (some ⟨g9, o9, none⟩) ps.length c1) := hxr.drewr.cell p3
      have K4r := K4.ext hxr.drewr
      obtain ⟨k0, k1, k2, k3⟩ := (⟨K4r.cell 0, K4r.cell 1, K4r.cell 2, K4r.cell 3⟩ : wr.drew.cell? ⟨u, 0, none⟩ = some (.string s) ∧ wr.drew.cell? ⟨u, 1, none⟩ = some (.int .i64 c) ∧ wr.drew.cell? ⟨u, 2, none⟩ = some (.int .i64 e) ∧ wr.drew.cell? ⟨u, 3, none⟩ = some (.bool false))
      have t1 : (k : Int) < (nds.length : Int) := by omega
      have t2 : (k : Int) < (ps.length : Int) := by omega
      clear hat0 hat1 hok0 hok1 hr HI HP HMem HLN hv3 K4 K4r p3 hln
      generalize parseN s.size (leafB s c e) ps[k] nds[k] = pk at *
      generalize hdq : ps[k].d = dq at *
      generalize hhn : nds[k].h = hn at *
      clear hdq hhn
      go_upto_region 18 with fail
      refine wp_region_still_tail 10 (by kernel_rfl) (by kernel_rfl) ?_
      simp only [List.take_succ_cons, List.take_zero, List.drop_succ_cons, List.drop_zero]
      repeat still_step
      refine wpStill_loadNd _ rfl rfl g1 (o1 + k * 10) hn svn rfl A1.out ?_
      repeat still_step
      refine wpStill_loadPs _ rfl rfl g9 (o9 + k * 4) dq svq rfl A0.out ?_
      repeat still_step
      refine wpStill_nil ?_
      change wpList _ _ _ _ _ wr.drew
      cases pk
      · have FIN := Lib.hid (show res = false by rw [HST.out]; rfl)
        clear HST
        go_wp2_with (go_at_call 67; refine HIk.out.mono ?_; rintro e w6 ⟨rfl, hx6⟩)
        go_ret
        exact ⟨by rw [FIN.out]; rfl, hxw.drewr.trans hx6⟩
      · have HS2 := Lib.hid (show res = allN s.size (leafB s c e) (ps.drop (k + 1)) (nds.drop (k + 1)) by rw [HST.out, Bool.true_and])
        clear HST
        go_wp2_with (go_at_call 67; refine HIk.out.mono ?_; rintro e w6 ⟨rfl, hx6⟩)
        go_roundw
        case rel => exact ⟨k + 1, by omega, by go_num, HS2, hxr.drewr.trans hx6⟩
        case measure => simp [intOf]; omega
    · have FIN := Lib.hid (show res = true by rw [hr.out]; exact allN_done (by omega))
      have t1 : ¬ (k : Int) < (nds.length : Int) := by omega
      clear HI HP HMem HLN hv3 hr hln
      go_wp2
      go_ret
      exact ⟨by rw [FIN.out]; rfl, hxw⟩

theorem is_any (hs : s.size ≤ 1000000) : ∀ p : Ps, smallP p → IsOf s c e p := Ps.ind fun d ps ih hsm => is_one d ps (fun q hq => ih q hq (smallPL_mem hsm.2 q hq)) hsm.1 hs
end

end Go.Proofs.YthddlhpndaffjaaDoor

namespace Go.Proofs.YthddlhpndaffjaaDoor
open Go Go.RowKit

section
variable {ops : Array Oper} {rest : List Oper} {o : Oper} {a : Act} {w : World} {Q : Exit → Act → World → Prop}
/-- The store of one cell of a block. -/
theorem wpl_storeCell (hgd : o.guard = none) (ty : TypeId) (x y : Operand) (ho : o.op = .store ty x y) (hd : o.dst = none) (g k : Nat) (v u : Value) (hx : a.eval x = .pointer (some ⟨g, k, none⟩)) (hy : a.eval y = v) (hi : (Tryd.prog.info? ty).map (·.size) = some 1) (h1 : v.oneCell' = true) (t : TypeId) (cs : Array Value) (hB : Blk w g t cs) (hc : cs[k]? = some u)
    (hK : ∀ w1, Blk w1 g t (cs.setIfInBounds k v) → Keeps (· = g) w w1 → wpList Tryd.prog ops Q rest a w1) : wpList Tryd.prog ops Q (o :: rest) a w := by
  have hpa : a.put o.dst undef = a := by rw [hd]; rfl
  rw [← hpa] at hK
  refine wpList_plain hgd fun _ hKK => ?_
  have hc : w.cell? ⟨g, k, none⟩ = some u := by rw [hB.cell]; exact hc
  unfold Oper.wp execOp
  simp only [ho, hx, hy, Instr.storeAt, Instr.sureAddr, Sem.run_bind, Sem.run_pure, Result.andThen_ok, run_storeVar_cell (P := Tryd.prog) w g k ty v u hc (hB.frozen k) hi h1]
  exact hKK _ _ (hK _ (hB.set k _) ((Keeps.refl (· = g) w).setCell (.inr rfl) _))
theorem info_set4 (p : Nat → Bool) : (Tryd.prog.info? 24).map (·.size) = some (#[Value.int .u64 (wd p 0 : Int), .int .u64 (wd p 1 : Int), .int .u64 (wd p 2 : Int), .int .u64 (wd p 3 : Int)] : Array Value).size := by kernel_rfl
/-- The store of a node's set. -/
theorem wpl_storeSetIn (hgd : o.guard = none) (x y : Operand) (ho : o.op = .store 24 x y) (hd : o.dst = none) (g : Nat) (h : Hd) (sv : Value) (p : Nat → Bool) (hx : a.eval x = .pointer (some ⟨g, 1, none⟩)) (hy : a.eval y = .agg #[.int .u64 (wd p 0 : Int), .int .u64 (wd p 1 : Int), .int .u64 (wd p 2 : Int), .int .u64 (wd p 3 : Int)]) (hB : Blk w g 27 (nodeA h sv))
    (hK : ∀ w1, Blk w1 g 27 (nodeA { h with set := p } sv) → Keeps (· = g) w w1 → wpList Tryd.prog ops Q rest a w1) : wpList Tryd.prog ops Q (o :: rest) a w := by
  have hpa : a.put o.dst undef = a := by rw [hd]; rfl
  rw [← hpa] at hK
  have hs : w.setCells g 1 [.int .u64 (wd p 0 : Int), .int .u64 (wd p 1 : Int), .int .u64 (wd p 2 : Int), .int .u64 (wd p 3 : Int)] = (((w.setCell ⟨g, 1, none⟩ (.int .u64 (wd p 0 : Int))).setCell ⟨g, 2, none⟩ (.int .u64 (wd p 1 : Int))).setCell ⟨g, 3, none⟩ (.int .u64 (wd p 2 : Int))).setCell ⟨g, 4, none⟩ (.int .u64 (wd p 3 : Int)) := rfl
  refine wpList_store_mid hgd 24 x y ho g 1 _ hx hy (fun i hi => ⟨?_, hB.frozen _⟩) (info_set4 p) (by simp [Value.oneCell']) (hK _ ?_ ?_)
  · have hi4 : i < 4 := hi
    rw [hB.cell, nodeA_get]
    rcases (show i = 0 ∨ i = 1 ∨ i = 2 ∨ i = 3 from by omega) with rfl | rfl | rfl | rfl <;> rfl
  · rw [hs]
    exact (((hB.set 1 _).set 2 _).set 3 _).set 4 _
  · rw [hs]
    exact ((((Keeps.refl (· = g) w).setCell (.inr rfl) _).setCell (.inr rfl) _).setCell (.inr rfl) _).setCell (.inr rfl) _
end
theorem info_int1 : (Tryd.prog.info? 3).map (·.size) = some 1 := by kernel_rfl
theorem info_bool1 : (Tryd.prog.info? 4).map (·.size) = some 1 := by kernel_rfl

/-- A node with nothing but what its kind uses. -/
def usedH (h : Hd) : Hd := ⟨h.kind, if h.kind = 2 then h.set else noS, if h.kind = 7 then h.num else 0, if h.kind = 8 then h.min else 0, if h.kind = 8 then h.max else 0, if h.kind = 8 then h.bare else false⟩

set_option maxRecDepth 100000 in
set_option maxHeartbeats 4000000 in
theorem used_any (h : Hd) (sv : Value) (hsv : isSl sv) (w : World) :
    Calls Tryd.prog 103 #[nodeV h sv] w fun r w' => r = .returned (nodeV (usedH h) (.slice none 0 0)) ∧ Ext w w' := by
  obtain ⟨A, len, c, rfl⟩ := hsv
  go_enter Tryd.func103, Tryd.ntmps103
  go_upto_region 1 with (first
    | (refine wpl_boxNd rfl _ rfl h _ rfl ?_; intro b w1 hb hx1 eb sb)
    | (refine wpl_allocNd rfl rfl ?_; intro z w2 hz hx2 ez sz))
  have hb2 := hb.ext hx2
  have hx12 := hx1.trans hx2
  have c0 : w2.cell? ⟨b, 0, none⟩ = some (.int .i64 h.kind) := hb2.cell 0
  have hwz : w.heap.size ≤ z := by omega
  clear hb hx1 hx2 eb sb ez
  go_upto_region 2 with (first
    | (refine wpl_allocNd rfl rfl ?_; intro s w3 hs hx3 es ss)
    | (refine wpl_storeNd rfl _ _ rfl rfl s ⟨h.kind, noS, 0, 0, 0, false⟩ _ (.slice none 0 0) _ rfl (node_lit _ _ _ _ _ _) (isSl_mk _ _ _) hs ?_; intro w4 hs4 hk4))
  have hx4 := hx3.keep1 hk4 es
  have hb4 := hb2.ext hx4
  have hz4 := hz.ext hx4
  have hxw := hx12.trans hx4
  have hsz : z < s := by omega
  have hws : w.heap.size ≤ s := by omega
  have hbs : b < s := by have := hb2.lt; omega
  have k0 : w4.cell? ⟨b, 0, none⟩ = some (.int .i64 h.kind) := hb4.cell 0
  clear c0 hb2 hz hx12 hx3 hx4 hs hk4 es ss sz
  obtain ⟨kind, set, num, mn, mx, bare⟩ := h
  simp only at *
  by_cases k2 : kind = 2
  · subst k2
    have k1 : w4.cell? ⟨b, 1, none⟩ = some (.int .u64 (wd set 0 : Int)) := hb4.cell 1
    have k2 : w4.cell? ⟨b, 2, none⟩ = some (.int .u64 (wd set 1 : Int)) := hb4.cell 2
    have k3 : w4.cell? ⟨b, 3, none⟩ = some (.int .u64 (wd set 2 : Int)) := hb4.cell 3
    have k4 : w4.cell? ⟨b, 4, none⟩ = some (.int .u64 (wd set 3 : Int)) := hb4.cell 4
    go_wp2_with (first
      | (refine wpl_storeSetIn rfl _ _ rfl rfl s _ _ set rfl rfl hs4 ?_; intro w5 hs5 hk5)
      | (refine wpl_loadNd rfl _ rfl s 0 _ _ rfl hs5.nd ?_)
      | (refine wpl_storeNd rfl _ _ rfl rfl z _ _ (.slice none 0 0) _ rfl rfl (isSl_mk _ _ _) (hz4.keep1 hk5 (by omega)) ?_; intro w6 hz6 hk6))
    exact ret_nd rfl rfl rfl hz6 ⟨rfl, (hxw.keep1 hk5 hws).keep1 hk6 hwz⟩
  by_cases k7 : kind = 7
  · subst k7
    have k6 : w4.cell? ⟨b, 6, none⟩ = some (.int .i64 num) := hb4.cell 6
    go_wp2_with (first
      | (refine wpl_storeCell rfl 3 _ _ rfl rfl s 6 (.int .i64 num) _ rfl rfl info_int1 rfl _ _ hs4 rfl ?_; intro w5 hs5 hk5; replace hs5 : Blk w5 s 27 (nodeA ⟨7, noS, num, 0, 0, false⟩ (.slice none 0 0)) := hs5)
      | (refine wpl_loadNd rfl _ rfl s 0 _ _ rfl hs5.nd ?_)
      | (refine wpl_storeNd rfl _ _ rfl rfl z _ _ (.slice none 0 0) _ rfl rfl (isSl_mk _ _ _) (hz4.keep1 hk5 (by omega)) ?_; intro w6 hz6 hk6))
    exact ret_nd rfl rfl rfl hz6 ⟨rfl, (hxw.keep1 hk5 hws).keep1 hk6 hwz⟩
  by_cases k8 : kind = 8
  · subst k8
    have k6 : w4.cell? ⟨b, 7, none⟩ = some (.int .i64 mn) := hb4.cell 7
    go_wp2_with (first
      | (refine wpl_storeCell rfl 3 _ _ rfl rfl s 7 (.int .i64 mn) _ rfl rfl info_int1 rfl _ _ hs4 rfl ?_; intro w5 hs5 hk5; replace hs5 : Blk w5 s 27 (nodeA ⟨8, noS, 0, mn, 0, false⟩ (.slice none 0 0)) := hs5; have j8 : w5.cell? ⟨b, 8, none⟩ = some (.int .i64 mx) := (hb4.keep1 hk5 (by omega)).cell 8)
      | (refine wpl_storeCell rfl 3 _ _ rfl rfl s 8 (.int .i64 mx) _ rfl rfl info_int1 rfl _ _ hs5 rfl ?_; intro w6 hs6 hk6; replace hs6 : Blk w6 s 27 (nodeA ⟨8, noS, 0, mn, mx, false⟩ (.slice none 0 0)) := hs6; have j9 : w6.cell? ⟨b, 9, none⟩ = some (.bool bare) := ((hb4.keep1 hk5 (by omega)).keep1 hk6 (by omega)).cell 9)
      | (refine wpl_storeCell rfl 4 _ _ rfl rfl s 9 (.bool bare) _ rfl rfl info_bool1 rfl _ _ hs6 rfl ?_; intro w7 hs7 hk7; replace hs7 : Blk w7 s 27 (nodeA ⟨8, noS, 0, mn, mx, bare⟩ (.slice none 0 0)) := hs7)
      | (refine wpl_loadNd rfl _ rfl s 0 _ _ rfl hs7.nd ?_)
      | (refine wpl_storeNd rfl _ _ rfl rfl z _ _ (.slice none 0 0) _ rfl rfl (isSl_mk _ _ _) (((hz4.keep1 hk5 (by omega)).keep1 hk6 (by omega)).keep1 hk7 (by omega)) ?_; intro w8 hz8 hk8))
    exact ret_nd rfl rfl rfl hz8 ⟨rfl, (((hxw.keep1 hk5 hws).keep1 hk6 hws).keep1 hk7 hws).keep1 hk8 hwz⟩
  have hu : usedH ⟨kind, set, num, mn, mx, bare⟩ = ⟨kind, noS, 0, 0, 0, false⟩ := by simp [usedH, k2, k7, k8]
  have HU := Lib.hid hu
  clear hu
  go_wp2_with (first
    | (refine wpl_loadNd rfl _ rfl s 0 _ _ rfl hs4.nd ?_)
    | (refine wpl_storeNd rfl _ _ rfl rfl z _ _ (.slice none 0 0) _ rfl rfl (isSl_mk _ _ _) hz4 ?_; intro w6 hz6 hk6))
  exact ret_nd rfl rfl rfl hz6 ⟨by rw [HU.out], hxw.keep1 hk6 hwz⟩

end Go.Proofs.YthddlhpndaffjaaDoor

namespace Go.Proofs.YthddlhpndaffjaaDoor

def usedB (h : Hd) : Bool := decide (1 ≤ h.kind) && decide (h.kind ≤ 8) && wordsB h.set (usedH h).set && decide (h.num = (usedH h).num) && decide (h.min = (usedH h).min) && decide (h.max = (usedH h).max) && (h.bare == (usedH h).bare)
def swB (h : Hd) (len : Nat) : Bool :=
  if h.kind = 5 ∨ h.kind = 6 then decide (2 ≤ len)
  else if h.kind = 7 then decide (len = 1) && decide (1 ≤ h.num) && decide (h.num ≤ 999)
  else if h.kind = 8 then decide (len = 1) && decide (0 ≤ h.min) && decide (h.min ≤ 255) && decide (-1 ≤ h.max) && decide (h.max ≤ 255) && !(decide (0 ≤ h.max) && decide (h.max < h.min)) && !(h.bare && decide (h.min ≠ 0))
  else decide (len = 0)
theorem words_zero (p : Nat → Bool) : wordsB p noS = zeroS p := by
  unfold wordsB zeroS
  have : ∀ i, wd noS i = 0 := fun i => wd_none i
  simp [this]
theorem used_formed (h : Hd) (len : Nat) : (usedB h && swB h len) = formedB h len := by
  obtain ⟨kind, set, num, mn, mx, bare⟩ := h
  by_cases hr : 1 ≤ kind ∧ kind ≤ 8
  · obtain ⟨h1, h8⟩ := hr
    rcases (show kind = 1 ∨ kind = 2 ∨ kind = 3 ∨ kind = 4 ∨ kind = 5 ∨ kind = 6 ∨ kind = 7 ∨ kind = 8 from by omega) with rfl | rfl | rfl | rfl | rfl | rfl | rfl | rfl
    case inr.inr.inr.inr.inr.inr.inr =>
      have e : formedB ⟨8, set, num, mn, mx, bare⟩ len = (zeroS set && decide (num = 0) && decide (len = 1) && decide (0 ≤ mn) && decide (mn ≤ 255) && !(bare && decide (0 < mn)) && (decide (mx = -1) || decide (mn ≤ mx) && decide (mx ≤ 255))) := rfl
      have e2 : usedB ⟨8, set, num, mn, mx, bare⟩ = (wordsB set noS && decide (num = 0)) := by simp [usedB, usedH]
      have e3 : swB ⟨8, set, num, mn, mx, bare⟩ len = (decide (len = 1) && decide (0 ≤ mn) && decide (mn ≤ 255) && decide (-1 ≤ mx) && decide (mx ≤ 255) && !(decide (0 ≤ mx) && decide (mx < mn)) && !(bare && decide (mn ≠ 0))) := rfl
      rw [e, e2, e3, words_zero, Bool.eq_iff_iff]
      cases zeroS set <;> cases bare <;> simp only [Bool.and_eq_true, Bool.or_eq_true, Bool.not_eq_true', Bool.and_eq_false_iff, decide_eq_true_eq, decide_eq_false_iff_not, Bool.false_and, Bool.true_and, Bool.not_false, Bool.and_true, Bool.false_eq_true] <;> omega
    all_goals
      simp [usedB, usedH, swB, formedB, plainB, words_zero, wordsB_refl]
      try (rw [Bool.eq_iff_iff]; cases zeroS set <;> cases bare <;> simp <;> omega)
  · have hu : usedB ⟨kind, set, num, mn, mx, bare⟩ = false := by
      rw [usedB]
      by_cases h1 : 1 ≤ kind
      · have h8 : ¬ kind ≤ 8 := by omega
        simp [h8]
      · simp [h1]
    rw [hu, Bool.false_and]
    unfold formedB
    simp only
    rw [if_neg (by omega), if_neg (by omega), if_neg (by omega), if_neg (by omega), if_neg (by omega)]

end Go.Proofs.YthddlhpndaffjaaDoor

namespace Go.Proofs.YthddlhpndaffjaaDoor
open Go Go.RowKit

set_option maxRecDepth 100000 in
set_option maxHeartbeats 8000000 in
theorem form04_any : ∀ (n : Nd) (sv : Value) (w : World), NdOk w n sv → smallN n →
    Calls Tryd.prog 76 #[nodeV n.h sv] w fun r w' => r = .returned (.bool (formB n)) ∧ Ext w w' := by
  refine Nd.ind fun hd subs ih sv w hn hsm => ?_
  obtain ⟨A, c, rfl⟩ := hn.shape
  obtain ⟨hlen, hsm⟩ := hsm
  have IH := Lib.hid (fun n hm sv w hn => ih n hm sv w hn (smallL_mem hsm n hm))
  have HN := Lib.hid hn
  have HR := Lib.hid (by rw [formB, ← used_formed] : formB (.mk hd subs) = ((usedB hd && swB hd subs.length) && formL subs))
  have HU := Lib.hid (fun W => used_any hd (.slice A subs.length c) (isSl_mk _ _ _) W)
  clear ih hsm hn
  generalize formB (.mk hd subs) = res at *
  simp only [Nd.h, Nd.subs] at *
  go_enter Tryd.func76, Tryd.ntmps76
  go_upto_region 2 with (first
    | (refine wpl_boxNd rfl _ rfl hd _ rfl ?_; intro b w1 hb hx1 eb sb)
    | (refine wpl_loadNd rfl _ rfl b 0 hd _ rfl hb.nd ?_)
    | (go_at_call 103; refine (HU.out _).mono ?_; rintro e w2 ⟨rfl, hx2⟩)
    | (refine wpl_allocNd rfl rfl ?_; intro s w3 hs hx3 es ss)
    | (refine wpl_storeNd rfl _ _ rfl rfl s (usedH hd) _ _ _ rfl rfl (isSl_mk _ _ _) hs ?_; intro w4 hs4 hk4))
  have hx4 := hx2.trans (hx3.keep1 hk4 es)
  have hxw := hx1.trans hx4
  have hb4 := hb.ext hx4
  have c5 : w4.cell? ⟨b, 5, none⟩ = some (.slice A subs.length c) := hb4.cell 5
  clear HU hb hx1 hx2 hx3 hs hk4 es ss eb sb hx4
  simp only [Act.put, List.setIfInBounds_toArray, List.set_cons_succ, List.set_cons_zero]
  go_cut [51] (fun v wx => v = .bool (!usedB hd) ∧ w4 = wx)
  case first =>
    have c0 : w4.cell? ⟨b, 0, none⟩ = some (.int .i64 hd.kind) := hb4.cell 0
    have c1 : w4.cell? ⟨b, 1, none⟩ = some (.int .u64 (wd hd.set 0 : Int)) := hb4.cell 1
    have c2 : w4.cell? ⟨b, 2, none⟩ = some (.int .u64 (wd hd.set 1 : Int)) := hb4.cell 2
    have c3 : w4.cell? ⟨b, 3, none⟩ = some (.int .u64 (wd hd.set 2 : Int)) := hb4.cell 3
    have c4 : w4.cell? ⟨b, 4, none⟩ = some (.int .u64 (wd hd.set 3 : Int)) := hb4.cell 4
    have c6 : w4.cell? ⟨b, 6, none⟩ = some (.int .i64 hd.num) := hb4.cell 6
    have c7 : w4.cell? ⟨b, 7, none⟩ = some (.int .i64 hd.min) := hb4.cell 7
    have c8 : w4.cell? ⟨b, 8, none⟩ = some (.int .i64 hd.max) := hb4.cell 8
    have c9 : w4.cell? ⟨b, 9, none⟩ = some (.bool hd.bare) := hb4.cell 9
    have d1 : w4.cell? ⟨s, 1, none⟩ = some (.int .u64 (wd (usedH hd).set 0 : Int)) := hs4.cell 1
    have d2 : w4.cell? ⟨s, 2, none⟩ = some (.int .u64 (wd (usedH hd).set 1 : Int)) := hs4.cell 2
    have d3 : w4.cell? ⟨s, 3, none⟩ = some (.int .u64 (wd (usedH hd).set 2 : Int)) := hs4.cell 3
    have d4 : w4.cell? ⟨s, 4, none⟩ = some (.int .u64 (wd (usedH hd).set 3 : Int)) := hs4.cell 4
    have d6 : w4.cell? ⟨s, 6, none⟩ = some (.int .i64 (usedH hd).num) := hs4.cell 6
    have d7 : w4.cell? ⟨s, 7, none⟩ = some (.int .i64 (usedH hd).min) := hs4.cell 7
    have d8 : w4.cell? ⟨s, 8, none⟩ = some (.int .i64 (usedH hd).max) := hs4.cell 8
    have d9 : w4.cell? ⟨s, 9, none⟩ = some (.bool (usedH hd).bare) := hs4.cell 9
    have hne := neq_set hd.set (usedH hd).set
    have hS := Lib.hid (show usedB hd = (decide (1 ≤ hd.kind) && decide (hd.kind ≤ 8) && wordsB hd.set (usedH hd).set && decide (hd.num = (usedH hd).num) && decide (hd.min = (usedH hd).min) && decide (hd.max = (usedH hd).max) && (hd.bare == (usedH hd).bare)) from rfl)
    clear HR IH HN hb4 hs4 hxw
    generalize usedB hd = sh at *
    generalize (usedH hd).num = n2 at *
    generalize (usedH hd).min = m2 at *
    generalize (usedH hd).max = x2 at *
    generalize (usedH hd).bare = b2 at *
    generalize hd.kind = k1 at *
    generalize hd.num = n1 at *
    generalize hd.min = m1 at *
    generalize hd.max = x1 at *
    generalize hd.bare = b1 at *
    generalize wordsB hd.set (usedH hd).set = ws at *
    by_cases t0 : k1 < 1
    case' neg =>
      by_cases t1 : 8 < k1
      case' neg =>
        cases ws
        case' true =>
          by_cases t3 : n1 = n2
          case' neg => have e1 : (n1 != n2) = true := by simpa using t3
          case' pos =>
            subst t3
            by_cases t4 : m1 = m2
            case' neg => have e1 : (m1 != m2) = true := by simpa using t4
            case' pos =>
              subst t4
              by_cases t5 : x1 = x2
              case' neg => have e1 : (x1 != x2) = true := by simpa using t5
              case' pos =>
                subst t5
                cases b1 <;> cases b2
    all_goals
      have hq := Lib.hid (show (decide (1 ≤ k1) = !decide (k1 < 1)) ∧ (decide (k1 ≤ 8) = !decide (8 < k1)) from ⟨by rw [Bool.eq_iff_iff]; simp, by rw [Bool.eq_iff_iff]; simp⟩)
      go_wp2
      all_goals
        go_meet
        case rel => exact ⟨by rw [hS.out, hq.out.1, hq.out.2]; first | (simp; done) | (simp [*]; done), rfl⟩
  obtain ⟨rfl, rfl⟩ := hcut
  clear hs4
  cases hS : usedB hd
  · have HR2 := Lib.hid (show res = false by rw [HR.out, hS, Bool.false_and, Bool.false_and])
    clear HR IH HN hS
    go_wp2
    go_ret
    exact ⟨by rw [HR2.out]; rfl, hxw⟩
  rw [hS, Bool.true_and] at HR
  have hkk : 1 ≤ hd.kind ∧ hd.kind ≤ 8 := by
    simp only [usedB, Bool.and_eq_true, decide_eq_true_eq] at hS
    exact ⟨hS.1.1.1.1.1.1, hS.1.1.1.1.1.2⟩
  clear hS
  have hx44 : Ext w4 w4 := Ext.refl w4
  have c0 : w4.cell? ⟨b, 0, none⟩ = some (.int .i64 hd.kind) := hb4.cell 0
  have c6 : w4.cell? ⟨b, 6, none⟩ = some (.int .i64 hd.num) := hb4.cell 6
  have c7 : w4.cell? ⟨b, 7, none⟩ = some (.int .i64 hd.min) := hb4.cell 7
  have c8 : w4.cell? ⟨b, 8, none⟩ = some (.int .i64 hd.max) := hb4.cell 8
  have c9 : w4.cell? ⟨b, 9, none⟩ = some (.bool hd.bare) := hb4.cell 9
  obtain ⟨kind, set, num, mn, mx, bare⟩ := hd
  simp only at *
  have hlz : ∀ m : Nat, ((subs.length : Int) != (m : Int)) = !decide (subs.length = m) := fun m => by
    by_cases h : subs.length = m
    · simp [h]
    · have h2 : ¬ ((subs.length : Int) = (m : Int)) := by omega
      simp [h, h2]
  have l1 : ((subs.length : Int) != 1) = !decide (subs.length = 1) := hlz 1
  have l0 : ((subs.length : Int) != 0) = !decide (subs.length = 0) := hlz 0
  clear hlz hb4
  by_cases h56 : kind = 5 ∨ kind = 6
  · rcases h56 with rfl | rfl
    all_goals
      by_cases h1 : (subs.length : Int) < 2
      · have HR2 := Lib.hid (show res = false by
          rw [HR.out, Bool.and_eq_false_iff]
          refine .inl (Bool.eq_false_iff.2 fun h => ?_)
          simp [swB] at h
          omega)
        clear HR IH HN hx44
        go_wp2
        go_ret
        exact ⟨by rw [HR2.out]; rfl, hxw⟩
      · have HR2 := Lib.hid (show res = formL subs by
          rw [HR.out, show swB _ subs.length = true from by simp [swB]; omega, Bool.true_and])
        clear HR
        go_wp2
        go_loopw [5] (fun i wr => ∃ k : Nat, k ≤ subs.length ∧ i = .int .i64 k ∧ formL (subs.take k) = true ∧ Ext w4 wr) (fun i _ => subs.length - (intOf i).toNat)
        case atStart => exact ⟨0, Nat.zero_le _, rfl, by rw [List.take_zero, formL], hx44⟩
        case round =>
          clear hx44 c0 c6 c7 c8 c9 l0 l1
          obtain ⟨k, hk, rfl, hfl, hx⟩ := hrel
          have HL := Lib.hid hfl
          clear hfl
          replace c5 := hx.cell c5
          by_cases hlt : k < subs.length
          · obtain ⟨g0, o0, sv, rfl, hat, hok⟩ := HN.out.get k hlt
            have hxw2 := hxw.trans hx
            replace hat := hat.ext hxw2
            have HST := Lib.hid (show formL (subs.take (k + 1)) = formB subs[k] by rw [take_snoc subs k hlt, formL_app, HL.out, formL_one, Bool.true_and])
            have HEN := Lib.hid (show formB subs[k] = false → formL subs = false from fun h => by rw [← List.take_append_drop (k + 1) subs, formL_app, HST.out, h, Bool.false_and])
            have IHk := Lib.hid (IH.out subs[k] (List.getElem_mem hlt) sv wr (NdOk.ext hxw2 _ _ hok))
            clear IH HN HL hok
            generalize formB subs[k] = pk at *
            generalize subs[k] = nk at *
            have t1 : (k : Int) < (subs.length : Int) := by omega
            cases pk
            all_goals
              go_wp2_with (first
                | (refine wpl_loadNd rfl _ rfl g0 (o0 + k * 10) nk.h sv rfl hat ?_)
                | (go_at_call 76; refine IHk.out.mono ?_; rintro e w6 ⟨rfl, hx6⟩))
            · go_ret
              exact ⟨by rw [HR2.out, HEN.out trivial]; rfl, hxw2.trans hx6⟩
            · go_roundw
              case rel => exact ⟨k + 1, by omega, by go_num, HST.out, hx.trans hx6⟩
              case measure => simp [intOf]; omega
          · have hkl : subs.take k = subs := List.take_of_length_le (by omega)
            rw [hkl] at HL
            have t1 : ¬ (k : Int) < (subs.length : Int) := by omega
            clear IH HN hkl
            go_wp2
            go_ret
            exact ⟨by rw [HR2.out, HL.out]; rfl, hxw.trans hx⟩
  by_cases h7 : kind = 7
  · subst h7
    by_cases hl : subs.length = 1
    · by_cases h2 : num < 1
      · have HR2 := Lib.hid (show res = false by
          rw [HR.out, Bool.and_eq_false_iff]
          refine .inl (Bool.eq_false_iff.2 fun h => ?_)
          simp [swB] at h
          omega)
        rw [show decide (subs.length = 1) = true from by simpa using hl, Bool.not_true] at l1
        have T := Lib.hid hl
        clear hl
        clear HR IH HN hx44
        go_wp2
        go_ret
        exact ⟨by rw [HR2.out]; rfl, hxw⟩
      · by_cases h3 : 999 < num
        · have HR2 := Lib.hid (show res = false by
            rw [HR.out, Bool.and_eq_false_iff]
            refine .inl (Bool.eq_false_iff.2 fun h => ?_)
            simp [swB] at h
            omega)
          rw [show decide (subs.length = 1) = true from by simpa using hl, Bool.not_true] at l1
          have T := Lib.hid hl
          clear hl
          clear HR IH HN hx44
          go_wp2
          go_ret
          exact ⟨by rw [HR2.out]; rfl, hxw⟩
        · have HR2 := Lib.hid (show res = formL subs by
            rw [HR.out, show swB _ subs.length = true from by simp [swB]; omega, Bool.true_and])
          rw [show decide (subs.length = 1) = true from by simpa using hl, Bool.not_true] at l1
          have T := Lib.hid hl
          clear hl
          clear HR
          go_wp2
          go_loopw [5] (fun i wr => ∃ k : Nat, k ≤ subs.length ∧ i = .int .i64 k ∧ formL (subs.take k) = true ∧ Ext w4 wr) (fun i _ => subs.length - (intOf i).toNat)
          case atStart => exact ⟨0, Nat.zero_le _, rfl, by rw [List.take_zero, formL], hx44⟩
          case round =>
            clear hx44 c0 c6 c7 c8 c9 l0 l1
            obtain ⟨k, hk, rfl, hfl, hx⟩ := hrel
            have HL := Lib.hid hfl
            clear hfl
            replace c5 := hx.cell c5
            by_cases hlt : k < subs.length
            · obtain ⟨g0, o0, sv, rfl, hat, hok⟩ := HN.out.get k hlt
              have hxw2 := hxw.trans hx
              replace hat := hat.ext hxw2
              have HST := Lib.hid (show formL (subs.take (k + 1)) = formB subs[k] by rw [take_snoc subs k hlt, formL_app, HL.out, formL_one, Bool.true_and])
              have HEN := Lib.hid (show formB subs[k] = false → formL subs = false from fun h => by rw [← List.take_append_drop (k + 1) subs, formL_app, HST.out, h, Bool.false_and])
              have IHk := Lib.hid (IH.out subs[k] (List.getElem_mem hlt) sv wr (NdOk.ext hxw2 _ _ hok))
              clear IH HN HL hok
              generalize formB subs[k] = pk at *
              generalize subs[k] = nk at *
              have t1 : (k : Int) < (subs.length : Int) := by omega
              cases pk
              all_goals
                go_wp2_with (first
                  | (refine wpl_loadNd rfl _ rfl g0 (o0 + k * 10) nk.h sv rfl hat ?_)
                  | (go_at_call 76; refine IHk.out.mono ?_; rintro e w6 ⟨rfl, hx6⟩))
              · go_ret
                exact ⟨by rw [HR2.out, HEN.out trivial]; rfl, hxw2.trans hx6⟩
              · go_roundw
                case rel => exact ⟨k + 1, by omega, by go_num, HST.out, hx.trans hx6⟩
                case measure => simp [intOf]; omega
            · have hkl : subs.take k = subs := List.take_of_length_le (by omega)
              rw [hkl] at HL
              have t1 : ¬ (k : Int) < (subs.length : Int) := by omega
              clear IH HN hkl
              go_wp2
              go_ret
              exact ⟨by rw [HR2.out, HL.out]; rfl, hxw.trans hx⟩
    · have HR2 := Lib.hid (show res = false by
        rw [HR.out, Bool.and_eq_false_iff]
        refine .inl (Bool.eq_false_iff.2 fun h => ?_)
        simp [swB] at h
        omega)
      rw [show decide (subs.length = 1) = false from by simpa using hl, Bool.not_false] at l1
      have T := Lib.hid hl
      clear hl
      clear HR IH HN hx44
      go_wp2
      go_ret
      exact ⟨by rw [HR2.out]; rfl, hxw⟩
  by_cases h8 : kind = 8
  · subst h8
    by_cases hl : subs.length = 1
    · by_cases h2 : mn < 0
      · have HR2 := Lib.hid (show res = false by
          rw [HR.out, Bool.and_eq_false_iff]
          refine .inl (Bool.eq_false_iff.2 fun h => ?_)
          simp [swB] at h
          omega)
        rw [show decide (subs.length = 1) = true from by simpa using hl, Bool.not_true] at l1
        have T := Lib.hid hl
        clear hl
        clear HR IH HN hx44
        go_wp2
        go_ret
        exact ⟨by rw [HR2.out]; rfl, hxw⟩
      · by_cases h3 : 255 < mn
        · have HR2 := Lib.hid (show res = false by
            rw [HR.out, Bool.and_eq_false_iff]
            refine .inl (Bool.eq_false_iff.2 fun h => ?_)
            simp [swB] at h
            omega)
          rw [show decide (subs.length = 1) = true from by simpa using hl, Bool.not_true] at l1
          have T := Lib.hid hl
          clear hl
          clear HR IH HN hx44
          go_wp2
          go_ret
          exact ⟨by rw [HR2.out]; rfl, hxw⟩
        · by_cases h4 : mx < -1
          · have HR2 := Lib.hid (show res = false by
              rw [HR.out, Bool.and_eq_false_iff]
              refine .inl (Bool.eq_false_iff.2 fun h => ?_)
              simp [swB] at h
              omega)
            rw [show decide (subs.length = 1) = true from by simpa using hl, Bool.not_true] at l1
            have T := Lib.hid hl
            clear hl
            clear HR IH HN hx44
            go_wp2
            go_ret
            exact ⟨by rw [HR2.out]; rfl, hxw⟩
          · by_cases h5 : 255 < mx
            · have HR2 := Lib.hid (show res = false by
                rw [HR.out, Bool.and_eq_false_iff]
                refine .inl (Bool.eq_false_iff.2 fun h => ?_)
                simp [swB] at h
                omega)
              rw [show decide (subs.length = 1) = true from by simpa using hl, Bool.not_true] at l1
              have T := Lib.hid hl
              clear hl
              clear HR IH HN hx44
              go_wp2
              go_ret
              exact ⟨by rw [HR2.out]; rfl, hxw⟩
            · by_cases hp : 0 ≤ mx
              · by_cases h7 : mx < mn
                · have HR2 := Lib.hid (show res = false by
                    rw [HR.out, Bool.and_eq_false_iff]
                    refine .inl (Bool.eq_false_iff.2 fun h => ?_)
                    simp [swB] at h
                    omega)
                  clear HR IH HN hx44
                  go_wp2
                  go_ret
                  exact ⟨by rw [HR2.out]; rfl, hxw⟩
                · cases bare
                  · have HR2 := Lib.hid (show res = formL subs by
                      rw [HR.out, show swB _ subs.length = true from by simp [swB]; omega, Bool.true_and])
                    rw [show decide (subs.length = 1) = true from by simpa using hl, Bool.not_true] at l1
                    have T := Lib.hid hl
                    clear hl
                    clear HR
                    go_wp2
                    go_loopw [5] (fun i wr => ∃ k : Nat, k ≤ subs.length ∧ i = .int .i64 k ∧ formL (subs.take k) = true ∧ Ext w4 wr) (fun i _ => subs.length - (intOf i).toNat)
                    case atStart => exact ⟨0, Nat.zero_le _, rfl, by rw [List.take_zero, formL], hx44⟩
                    case round =>
                      clear hx44 c0 c6 c7 c8 c9 l0 l1
                      obtain ⟨k, hk, rfl, hfl, hx⟩ := hrel
                      have HL := Lib.hid hfl
                      clear hfl
                      replace c5 := hx.cell c5
                      by_cases hlt : k < subs.length
                      · obtain ⟨g0, o0, sv, rfl, hat, hok⟩ := HN.out.get k hlt
                        have hxw2 := hxw.trans hx
                        replace hat := hat.ext hxw2
                        have HST := Lib.hid (show formL (subs.take (k + 1)) = formB subs[k] by rw [take_snoc subs k hlt, formL_app, HL.out, formL_one, Bool.true_and])
                        have HEN := Lib.hid (show formB subs[k] = false → formL subs = false from fun h => by rw [← List.take_append_drop (k + 1) subs, formL_app, HST.out, h, Bool.false_and])
                        have IHk := Lib.hid (IH.out subs[k] (List.getElem_mem hlt) sv wr (NdOk.ext hxw2 _ _ hok))
                        clear IH HN HL hok
                        generalize formB subs[k] = pk at *
                        generalize subs[k] = nk at *
                        have t1 : (k : Int) < (subs.length : Int) := by omega
                        cases pk
                        all_goals
                          go_wp2_with (first
                            | (refine wpl_loadNd rfl _ rfl g0 (o0 + k * 10) nk.h sv rfl hat ?_)
                            | (go_at_call 76; refine IHk.out.mono ?_; rintro e w6 ⟨rfl, hx6⟩))
                        · go_ret
                          exact ⟨by rw [HR2.out, HEN.out trivial]; rfl, hxw2.trans hx6⟩
                        · go_roundw
                          case rel => exact ⟨k + 1, by omega, by go_num, HST.out, hx.trans hx6⟩
                          case measure => simp [intOf]; omega
                      · have hkl : subs.take k = subs := List.take_of_length_le (by omega)
                        rw [hkl] at HL
                        have t1 : ¬ (k : Int) < (subs.length : Int) := by omega
                        clear IH HN hkl
                        go_wp2
                        go_ret
                        exact ⟨by rw [HR2.out, HL.out]; rfl, hxw.trans hx⟩
                  · by_cases hz : mn = 0
                    · have HR2 := Lib.hid (show res = formL subs by
                        rw [HR.out, show swB _ subs.length = true from by simp [swB]; omega, Bool.true_and])
                      rw [show decide (subs.length = 1) = true from by simpa using hl, Bool.not_true] at l1
                      have T := Lib.hid hl
                      clear hl
                      subst hz
                      clear HR
                      go_wp2
                      go_loopw [5] (fun i wr => ∃ k : Nat, k ≤ subs.length ∧ i = .int .i64 k ∧ formL (subs.take k) = true ∧ Ext w4 wr) (fun i _ => subs.length - (intOf i).toNat)
                      case atStart => exact ⟨0, Nat.zero_le _, rfl, by rw [List.take_zero, formL], hx44⟩
                      case round =>
                        clear hx44 c0 c6 c7 c8 c9 l0 l1
                        obtain ⟨k, hk, rfl, hfl, hx⟩ := hrel
                        have HL := Lib.hid hfl
                        clear hfl
                        replace c5 := hx.cell c5
                        by_cases hlt : k < subs.length
                        · obtain ⟨g0, o0, sv, rfl, hat, hok⟩ := HN.out.get k hlt
                          have hxw2 := hxw.trans hx
                          replace hat := hat.ext hxw2
                          have HST := Lib.hid (show formL (subs.take (k + 1)) = formB subs[k] by rw [take_snoc subs k hlt, formL_app, HL.out, formL_one, Bool.true_and])
                          have HEN := Lib.hid (show formB subs[k] = false → formL subs = false from fun h => by rw [← List.take_append_drop (k + 1) subs, formL_app, HST.out, h, Bool.false_and])
                          have IHk := Lib.hid (IH.out subs[k] (List.getElem_mem hlt) sv wr (NdOk.ext hxw2 _ _ hok))
                          clear IH HN HL hok
                          generalize formB subs[k] = pk at *
                          generalize subs[k] = nk at *
                          have t1 : (k : Int) < (subs.length : Int) := by omega
                          cases pk
                          all_goals
                            go_wp2_with (first
                              | (refine wpl_loadNd rfl _ rfl g0 (o0 + k * 10) nk.h sv rfl hat ?_)
                              | (go_at_call 76; refine IHk.out.mono ?_; rintro e w6 ⟨rfl, hx6⟩))
                          · go_ret
                            exact ⟨by rw [HR2.out, HEN.out trivial]; rfl, hxw2.trans hx6⟩
                          · go_roundw
                            case rel => exact ⟨k + 1, by omega, by go_num, HST.out, hx.trans hx6⟩
                            case measure => simp [intOf]; omega
                        · have hkl : subs.take k = subs := List.take_of_length_le (by omega)
                          rw [hkl] at HL
                          have t1 : ¬ (k : Int) < (subs.length : Int) := by omega
                          clear IH HN hkl
                          go_wp2
                          go_ret
                          exact ⟨by rw [HR2.out, HL.out]; rfl, hxw.trans hx⟩
                    · have HR2 := Lib.hid (show res = false by
                        rw [HR.out, Bool.and_eq_false_iff]
                        refine .inl (Bool.eq_false_iff.2 fun h => ?_)
                        simp [swB] at h
                        omega)
                      rw [show decide (subs.length = 1) = true from by simpa using hl, Bool.not_true] at l1
                      have T := Lib.hid hl
                      clear hl
                      have n1 : (mn != 0) = true := by simpa using hz
                      clear HR IH HN hx44
                      go_wp2
                      go_ret
                      exact ⟨by rw [HR2.out]; rfl, hxw⟩
              · cases bare
                · have HR2 := Lib.hid (show res = formL subs by
                    rw [HR.out, show swB _ subs.length = true from by simp [swB]; omega, Bool.true_and])
                  rw [show decide (subs.length = 1) = true from by simpa using hl, Bool.not_true] at l1
                  have T := Lib.hid hl
                  clear hl
                  clear HR
                  go_wp2
                  go_loopw [5] (fun i wr => ∃ k : Nat, k ≤ subs.length ∧ i = .int .i64 k ∧ formL (subs.take k) = true ∧ Ext w4 wr) (fun i _ => subs.length - (intOf i).toNat)
                  case atStart => exact ⟨0, Nat.zero_le _, rfl, by rw [List.take_zero, formL], hx44⟩
                  case round =>
                    clear hx44 c0 c6 c7 c8 c9 l0 l1
                    obtain ⟨k, hk, rfl, hfl, hx⟩ := hrel
                    have HL := Lib.hid hfl
                    clear hfl
                    replace c5 := hx.cell c5
                    by_cases hlt : k < subs.length
                    · obtain ⟨g0, o0, sv, rfl, hat, hok⟩ := HN.out.get k hlt
                      have hxw2 := hxw.trans hx
                      replace hat := hat.ext hxw2
                      have HST := Lib.hid (show formL (subs.take (k + 1)) = formB subs[k] by rw [take_snoc subs k hlt, formL_app, HL.out, formL_one, Bool.true_and])
                      have HEN := Lib.hid (show formB subs[k] = false → formL subs = false from fun h => by rw [← List.take_append_drop (k + 1) subs, formL_app, HST.out, h, Bool.false_and])
                      have IHk := Lib.hid (IH.out subs[k] (List.getElem_mem hlt) sv wr (NdOk.ext hxw2 _ _ hok))
                      clear IH HN HL hok
                      generalize formB subs[k] = pk at *
                      generalize subs[k] = nk at *
                      have t1 : (k : Int) < (subs.length : Int) := by omega
                      cases pk
                      all_goals
                        go_wp2_with (first
                          | (refine wpl_loadNd rfl _ rfl g0 (o0 + k * 10) nk.h sv rfl hat ?_)
                          | (go_at_call 76; refine IHk.out.mono ?_; rintro e w6 ⟨rfl, hx6⟩))
                      · go_ret
                        exact ⟨by rw [HR2.out, HEN.out trivial]; rfl, hxw2.trans hx6⟩
                      · go_roundw
                        case rel => exact ⟨k + 1, by omega, by go_num, HST.out, hx.trans hx6⟩
                        case measure => simp [intOf]; omega
                    · have hkl : subs.take k = subs := List.take_of_length_le (by omega)
                      rw [hkl] at HL
                      have t1 : ¬ (k : Int) < (subs.length : Int) := by omega
                      clear IH HN hkl
                      go_wp2
                      go_ret
                      exact ⟨by rw [HR2.out, HL.out]; rfl, hxw.trans hx⟩
                · by_cases hz : mn = 0
                  · have HR2 := Lib.hid (show res = formL subs by
                      rw [HR.out, show swB _ subs.length = true from by simp [swB]; omega, Bool.true_and])
                    rw [show decide (subs.length = 1) = true from by simpa using hl, Bool.not_true] at l1
                    have T := Lib.hid hl
                    clear hl
                    subst hz
                    clear HR
                    go_wp2
                    go_loopw [5] (fun i wr => ∃ k : Nat, k ≤ subs.length ∧ i = .int .i64 k ∧ formL (subs.take k) = true ∧ Ext w4 wr) (fun i _ => subs.length - (intOf i).toNat)
                    case atStart => exact ⟨0, Nat.zero_le _, rfl, by rw [List.take_zero, formL], hx44⟩
                    case round =>
                      clear hx44 c0 c6 c7 c8 c9 l0 l1
                      obtain ⟨k, hk, rfl, hfl, hx⟩ := hrel
                      have HL := Lib.hid hfl
                      clear hfl
                      replace c5 := hx.cell c5
                      by_cases hlt : k < subs.length
                      · obtain ⟨g0, o0, sv, rfl, hat, hok⟩ := HN.out.get k hlt
                        have hxw2 := hxw.trans hx
                        replace hat := hat.ext hxw2
                        have HST := Lib.hid (show formL (subs.take (k + 1)) = formB subs[k] by rw [take_snoc subs k hlt, formL_app, HL.out, formL_one, Bool.true_and])
                        have HEN := Lib.hid (show formB subs[k] = false → formL subs = false from fun h => by rw [← List.take_append_drop (k + 1) subs, formL_app, HST.out, h, Bool.false_and])
                        have IHk := Lib.hid (IH.out subs[k] (List.getElem_mem hlt) sv wr (NdOk.ext hxw2 _ _ hok))
                        clear IH HN HL hok
                        generalize formB subs[k] = pk at *
                        generalize subs[k] = nk at *
                        have t1 : (k : Int) < (subs.length : Int) := by omega
                        cases pk
                        all_goals
                          go_wp2_with (first
                            | (refine wpl_loadNd rfl _ rfl g0 (o0 + k * 10) nk.h sv rfl hat ?_)
                            | (go_at_call 76; refine IHk.out.mono ?_; rintro e w6 ⟨rfl, hx6⟩))
                        · go_ret
                          exact ⟨by rw [HR2.out, HEN.out trivial]; rfl, hxw2.trans hx6⟩
                        · go_roundw
                          case rel => exact ⟨k + 1, by omega, by go_num, HST.out, hx.trans hx6⟩
                          case measure => simp [intOf]; omega
                      · have hkl : subs.take k = subs := List.take_of_length_le (by omega)
                        rw [hkl] at HL
                        have t1 : ¬ (k : Int) < (subs.length : Int) := by omega
                        clear IH HN hkl
                        go_wp2
                        go_ret
                        exact ⟨by rw [HR2.out, HL.out]; rfl, hxw.trans hx⟩
                  · have HR2 := Lib.hid (show res = false by
                      rw [HR.out, Bool.and_eq_false_iff]
                      refine .inl (Bool.eq_false_iff.2 fun h => ?_)
                      simp [swB] at h
                      omega)
                    rw [show decide (subs.length = 1) = true from by simpa using hl, Bool.not_true] at l1
                    have T := Lib.hid hl
                    clear hl
                    have n1 : (mn != 0) = true := by simpa using hz
                    clear HR IH HN hx44
                    go_wp2
                    go_ret
                    exact ⟨by rw [HR2.out]; rfl, hxw⟩
    · have HR2 := Lib.hid (show res = false by
        rw [HR.out, Bool.and_eq_false_iff]
        refine .inl (Bool.eq_false_iff.2 fun h => ?_)
        simp [swB] at h
        omega)
      rw [show decide (subs.length = 1) = false from by simpa using hl, Bool.not_false] at l1
      have T := Lib.hid hl
      clear hl
      clear HR IH HN hx44
      go_wp2
      go_ret
      exact ⟨by rw [HR2.out]; rfl, hxw⟩
  rcases (show kind = 1 ∨ kind = 2 ∨ kind = 3 ∨ kind = 4 from by omega) with rfl | rfl | rfl | rfl
  all_goals
    clear h56 h7 h8 hkk
    by_cases hl : subs.length = 0
    · have HR2 := Lib.hid (show res = formL subs by
        rw [HR.out, show swB _ subs.length = true from by simp [swB, hl], Bool.true_and])
      rw [show decide (subs.length = 0) = true from by simpa using hl, Bool.not_true] at l0
      have T := Lib.hid hl
      clear hl
      clear HR
      go_wp2
      go_loopw [5] (fun i wr => ∃ k : Nat, k ≤ subs.length ∧ i = .int .i64 k ∧ formL (subs.take k) = true ∧ Ext w4 wr) (fun i _ => subs.length - (intOf i).toNat)
      case atStart => exact ⟨0, Nat.zero_le _, rfl, by rw [List.take_zero, formL], hx44⟩
      case round =>
        clear hx44 c0 c6 c7 c8 c9 l0 l1
        obtain ⟨k, hk, rfl, hfl, hx⟩ := hrel
        have HL := Lib.hid hfl
        clear hfl
        replace c5 := hx.cell c5
        by_cases hlt : k < subs.length
        · obtain ⟨g0, o0, sv, rfl, hat, hok⟩ := HN.out.get k hlt
          have hxw2 := hxw.trans hx
          replace hat := hat.ext hxw2
          have HST := Lib.hid (show formL (subs.take (k + 1)) = formB subs[k] by rw [take_snoc subs k hlt, formL_app, HL.out, formL_one, Bool.true_and])
          have HEN := Lib.hid (show formB subs[k] = false → formL subs = false from fun h => by rw [← List.take_append_drop (k + 1) subs, formL_app, HST.out, h, Bool.false_and])
          have IHk := Lib.hid (IH.out subs[k] (List.getElem_mem hlt) sv wr (NdOk.ext hxw2 _ _ hok))
          clear IH HN HL hok
          generalize formB subs[k] = pk at *
          generalize subs[k] = nk at *
          have t1 : (k : Int) < (subs.length : Int) := by omega
          cases pk
          all_goals
            go_wp2_with (first
              | (refine wpl_loadNd rfl _ rfl g0 (o0 + k * 10) nk.h sv rfl hat ?_)
              | (go_at_call 76; refine IHk.out.mono ?_; rintro e w6 ⟨rfl, hx6⟩))
          · go_ret
            exact ⟨by rw [HR2.out, HEN.out trivial]; rfl, hxw2.trans hx6⟩
          · go_roundw
            case rel => refine ⟨_, _, _, _, _, _, _, _, _, _, _, _, _, _, _, _, ?_, by congr 1⟩; exact ⟨k + 1, by omega, by go_num, HST.out, hx.trans hx6⟩
            case measure => simp [intOf]; omega
        · have hkl : subs.take k = subs := List.take_of_length_le (by omega)
          rw [hkl] at HL
          have t1 : ¬ (k : Int) < (subs.length : Int) := by omega
          clear IH HN hkl
          go_wp2
          go_ret
          exact ⟨by rw [HR2.out, HL.out]; rfl, hxw.trans hx⟩
    · have HR2 := Lib.hid (show res = false by
        rw [HR.out, Bool.and_eq_false_iff]
        refine .inl (Bool.eq_false_iff.2 fun h => ?_)
        simp [swB, hl] at h)
      rw [show decide (subs.length = 0) = false from by simpa using hl, Bool.not_false] at l0
      have T := Lib.hid hl
      clear hl
      clear HR IH HN hx44
      go_wp2
      go_ret
      exact ⟨by rw [HR2.out]; rfl, hxw⟩

end Go.Proofs.YthddlhpndaffjaaDoor
