/- rank.inner and rank.parse as contracts: whether a parse is one of a right tree. Condition: both lie in memory; the scene is a new one. -/
import Derived.Test.YthddlhpndaffjaaDoorRkA
import Derived.Test.YthddlhpndaffjaaDoorOctet
namespace Go.Proofs.YthddlhpndaffjaaDoor
open Go Go.RowKit

theorem decide_ne {n : Nat} {k : Nat} (h : n ≠ k) : ((n : Int) == (k : Int)) = false := by
  rw [beq_eq_false_iff_ne]; omega
section
variable {s : ByteArray} {c e : Int} {x : Value}
/-- What the contract of parse says of one parse. -/
def ParseOf (s : ByteArray) (c e : Int) (x : Value) (q : Ps) : Prop := ∀ (n : Nd) (svn svq : Value) (W : World), NdOk W n svn → PsOk W q svq → formB n = true → IsScene W x s (mkAt s c e s.size) →
  Calls Tryd.prog 66 #[nodeV n.h svn, x, psV q.d svq] W fun r w' => r = .returned (.bool (parseN s.size (leafB s c e) q n)) ∧ Ext W w'

set_option maxRecDepth 100000 in
set_option maxHeartbeats 8000000 in
theorem inner_any (h : Hd) (subs : List Nd) (svn : Value) (d : Pd) (ps : List Ps) (svp : Value) (w : World) (IH : ∀ q ∈ ps, ParseOf s c e x q) (hn : NdOk w (.mk h subs) svn) (hp : PsOk w (.mk d ps) svp) (hf : formB (.mk h subs) = true)
    (hS : IsScene w x s (mkAt s c e s.size)) (hlen : ps.length ≤ 1000000) (hk : 5 ≤ h.kind) :
    Calls Tryd.prog 91 #[nodeV h svn, x, psV d svp] w fun r w' => r = .returned (.bool (okB h subs.length d ps && rowN s.size (leafB s c e) ps (ndsOf h subs d ps.length) d.a d.b)) ∧ Ext w w' := by
  obtain ⟨A, c1, rfl⟩ := hp.shape
  obtain ⟨A', c2, rfl⟩ := hn.shape
  simp only [Ps.subs, Nd.subs] at *
  have hcase := form_cases hf
  have hsub := form_sub hf
  have HK := Lib.hid (show ∀ q (hq : q ∈ ps) n (hn : n ∈ subs) svn svq W, Ext w W → NdOk W n svn → PsOk W q svq → Calls Tryd.prog 66 #[nodeV n.h svn, x, psV q.d svq] W fun r w' => r = .returned (.bool (parseN s.size (leafB s c e) q n)) ∧ Ext W w' from
    fun q hq n hn svn svq W hW h1 h2 => IH q hq n svn svq W h1 h2 (hsub n hn) (hS.ext hW))
  have HP := Lib.hid hp
  have HN := Lib.hid hn
  have HO : ∃ ok, Hid (ok = okB h subs.length d ps) := ⟨_, Lib.hid rfl⟩
  obtain ⟨ok, HO⟩ := HO
  have HD : ∃ nds, Hid (nds = ndsOf h subs d ps.length) := ⟨_, Lib.hid rfl⟩
  obtain ⟨nds, HD⟩ := HD
  have HR : ∃ res, Hid (res = (ok && rowN s.size (leafB s c e) ps nds d.a d.b)) := ⟨_, Lib.hid rfl⟩
  obtain ⟨res, HR⟩ := HR
  rw [← HO.out, ← HD.out, ← HR.out]
  clear IH hsub hf hp hn hS
  go_enter Tryd.func91, Tryd.ntmps91
  go_upto_region 1 with (first
    | (refine wpl_boxNd rfl _ rfl h _ rfl ?_; intro z w1 hb hx1 ex sx)
    | (refine wpl_boxPs rfl _ rfl d _ rfl ?_; intro y w2 hc hx2 ey sy))
  have hb2 := hb.ext hx2
  have hx12 := hx1.trans hx2
  clear hb hx1 hx2 ex sx ey sy
  have n0 : w2.cell? ⟨z, 0, none⟩ = some (.int .i64 h.kind) := hb2.cell 0
  have n5 : w2.cell? ⟨z, 5, none⟩ = some (.slice A' subs.length c2) := hb2.cell 5
  have p2 : w2.cell? ⟨y, 2, none⟩ = some (.int .i64 d.k) := hc.cell 2
  have p3 : w2.cell? ⟨y, 3, none⟩ = some (.slice A ps.length c1) := hc.cell 3
  have HNA := Lib.hid hb2.nd
  have HPA := Lib.hid hc.ps
  have p0 : w2.cell? ⟨y, 0, none⟩ = some (.int .i64 d.a) := hc.cell 0
  have p1 : w2.cell? ⟨y, 1, none⟩ = some (.int .i64 d.b) := hc.cell 1
  clear hb2 hc
  rcases hcase with ⟨h1, _⟩ | ⟨h1, _⟩ | ⟨h1, _⟩ | ⟨h1, _⟩ | ⟨hkind, hs⟩ | ⟨hkind, hs⟩ | ⟨hkind, hs, _⟩ | ⟨hkind, hs, hm0, _⟩
  iterate 4
    · omega
  · -- a row
--@ROW
    have HO2 := Lib.hid (show ok = decide (ps.length = subs.length) by rw [HO.out]; unfold okB; rw [if_neg (by omega), if_neg (by omega), if_pos hkind])
    have HD2 := Lib.hid (show nds = subs by rw [HD.out]; unfold ndsOf; rw [if_neg (by omega), if_neg (by omega)])
    rw [hkind] at n0
    clear HO HD hkind hk
    by_cases t1 : ps.length = subs.length
    case neg =>
      have e1 : ((ps.length : Int) != (subs.length : Int)) = true := by simp; omega
      have FIN := Lib.hid (show res = false by rw [HR.out, HO2.out, decide_eq_false t1]; rfl)
      clear HO2 HD2 HR HK HP HN t1 HPA HNA
      go_wp2
      go_ret
      exact ⟨by rw [FIN.out]; rfl, hx12⟩
    have e1 : ((ps.length : Int) != (subs.length : Int)) = false := by rw [t1]; simp
    have HR2 := Lib.hid (show res = rowN s.size (leafB s c e) (ps.drop 0) (nds.drop 0) d.a d.b by rw [HR.out, HO2.out, decide_eq_true t1]; rfl)
    have HT1 := Lib.hid t1
    clear HR HO2 t1
    go_upto_region 15 with fail
    clear e1 HNA
    have hx22 := Ext.refl w2
    clear p0 p2 HPA
    go_loopw [8, 98] (fun at_ i wr => ∃ (k : Nat) (p : Int), k ≤ ps.length ∧ i = .int .i64 k ∧ at_ = .int .i64 p ∧ Hid (res = rowN s.size (leafB s c e) (ps.drop k) (nds.drop k) p d.b) ∧ Ext w2 wr) (fun _ i _ => ps.length - (intOf i).toNat)
    case atStart => exact ⟨0, d.a, Nat.zero_le _, rfl, rfl, HR2, hx22⟩
    case round =>
      clear hx22 HR2
      obtain ⟨k, p, hk, rfl, rfl, hr, hx⟩ := hrel
      have hx12' := hx12.trans hx
      by_cases hlt : k < ps.length
      · obtain ⟨g, o, svq, rfl, hat, hok⟩ := HP.out.get k hlt
        have hj : k < subs.length := by have := HT1.out; omega
        obtain ⟨g', o', svj, rfl, hat', hok'⟩ := HN.out.get k hj
        have t2 : (k : Int) < (subs.length : Int) := by omega
        have hkn : k < nds.length := by rw [HD2.out]; exact hj
        have hnd : nds[k] = subs[k] := by simp only [HD2.out]
        have hst := hr.out.trans (rowN_step hlt hkn p d.b)
        rw [hnd] at hst
        have HKq := Lib.hid (fun W (hW : Ext wr W) => HK.out ps[k] (List.getElem_mem hlt) subs[k] (List.getElem_mem hj) svj svq W (hx12'.trans hW) (hok'.ext (hx12'.trans hW)) (hok.ext (hx12'.trans hW)))
        have hatx := hat.ext hx12'
        have HSQ := Lib.hid hok.sl
        have HA' := Lib.hid (hat'.ext hx12')
        have HST := Lib.hid hst
        have n0' := hx.cell n0
        have n5' := hx.cell n5
        clear hst hnd hkn HK HP HN hat hat' hok hok' hr n0 n5 HD2
        generalize parseN s.size (leafB s c e) ps[k] subs[k] = pr at *
        generalize subs[k] = nj at *
        clear hj
        clear HT1
        generalize ps[k] = q at *
        generalize q.d = dq at *
        generalize nj.h = hn at *
        have t1 : (k : Int) < (ps.length : Int) := by omega
        go_upto_region 17 with (first
          | (refine wpl_loadPs rfl _ rfl g (o + k * 4) dq svq rfl hatx ?_)
          | (refine wpl_allocPs rfl rfl ?_; intro b w3 hb hx3 eb sb)
          | (refine wpl_storePs rfl _ _ rfl rfl b dq ⟨0, 0, 0⟩ svq _ rfl rfl HSQ.out hb ?_; intro w4 hb4 hk4))
        have hx34 := hx3.keep1 hk4 eb
        have hx4 := hx.trans hx34
        have hx14 := hx12'.trans hx34
        replace n0' := hx34.cell n0'
        replace n5' := hx34.cell n5'
        have HKr := Lib.hid (fun W (hW : Ext w4 W) => HKq.out W (hx34.trans hW))
        have HA2 := Lib.hid (HA'.out.ext hx34)
        have HB2 := Lib.hid hb4.ps
        have b0 : w4.cell? ⟨b, 0, none⟩ = some (.int .i64 dq.a) := hb4.cell 0
        have b1 := cell_plus (show w4.cell? ⟨b, 1, none⟩ = some (.int .i64 dq.b) from hb4.cell 1)
        have r0 := cell_plus b0
        have r5 := cell_plus n5'
        clear hb hx3 hk4 eb sb hx34 hatx HKq HA' HSQ hb4
        generalize dq.a = qa at *
        generalize dq.b = qb at *
        go_upto_region 20 with fail
        clear n0' n5' b0
        by_cases hfr : qa = p
        · have e1 : (qa != p) = false := by simpa using hfr
          have HS2 := Lib.hid (show res = (pr && rowN s.size (leafB s c e) (ps.drop (k + 1)) (nds.drop (k + 1)) qb d.b) by rw [HST.out, decide_eq_true hfr, Bool.true_and])
          clear HST hfr
          refine wp_region_plus (by kernel_rfl) (by kernel_rfl) ?_
          repeat (first
            | (go_big_quiet_want; refine quiet_loadPs _ rfl b 0 dq svq rfl HB2.out ?_; simp only [Act.put, List.setIfInBounds_toArray, List.set_cons_succ, List.set_cons_zero]; go_big_quiet_on)
            | (go_big_quiet_want; refine quiet_loadNd _ rfl g' (o' + k * 10) hn svj rfl HA2.out ?_; simp only [Act.put, List.setIfInBounds_toArray, List.set_cons_succ, List.set_cons_zero]; go_big_quiet_on)
            | (go_big_quiet_step ((go_at_call 66; exact Calls.plus_of (HKr.out _ (plus_ext _ _))))))
          refine wpQuiet_nil ?_
          intro v
          have hb1 := b1 v
          clear b1 r0 r5
          cases pr
          · have FIN := Lib.hid (show res = false from HS2.out)
            clear HS2
            go_wp2
            go_ret
            exact ⟨by rw [FIN.out]; rfl, hx14.trans (plus_ext _ v)⟩
          · have HS3 := Lib.hid (show res = rowN s.size (leafB s c e) (ps.drop (k + 1)) (nds.drop (k + 1)) qb d.b by rw [HS2.out, Bool.true_and])
            clear HS2
            go_wp2
            go_roundw
            case rel => exact ⟨k + 1, qb, by omega, by go_num, rfl, HS3, hx4.trans (plus_ext _ v)⟩
            case measure => simp [intOf]; omega
        · have e1 : (qa != p) = true := by simpa using hfr
          have FIN := Lib.hid (show res = false by rw [HST.out, decide_eq_false hfr]; rfl)
          clear HST hfr
          refine wp_region_plus (by kernel_rfl) (by kernel_rfl) ?_
          repeat (go_big_quiet_step (fail))
          refine wpQuiet_nil ?_
          intro v
          clear b1 r0 r5
          go_wp2
          go_ret
          exact ⟨by rw [FIN.out]; rfl, hx14.trans (plus_ext _ v)⟩
      · have FIN := Lib.hid (hr.out.trans (rowN_done (by omega) p d.b))
        have t1 : ¬ (k : Int) < (ps.length : Int) := by omega
        have p1' := hx.cell p1
        clear HK HP HN hr
        have HBQ := Lib.hid (show decide (p = d.b) = (p == d.b) by rw [Bool.eq_iff_iff]; simp)
        generalize d.b = db at *
        go_wp2
        go_ret
        exact ⟨by rw [FIN.out, HBQ.out]; rfl, hx12'⟩
--@ENDROW
  · -- one of several
    have HO2 := Lib.hid (show ok = decide (ps.length = 1 ∧ 0 ≤ d.k ∧ d.k < subs.length) by rw [HO.out]; unfold okB; rw [if_pos hkind])
    have HD2 := Lib.hid (show nds = [subs.getD d.k.toNat ndInh.default] by rw [HD.out]; unfold ndsOf; rw [if_pos hkind])
    rw [hkind] at n0
    clear HO HD hkind hk hs
    have q2 := cell_plus p2
    have q3 := cell_plus p3
    have m5 := cell_plus n5
    have HDv : ∃ a b k, Hid (d = ⟨a, b, k⟩) := ⟨d.a, d.b, d.k, Lib.hid rfl⟩
    obtain ⟨a, b, k, HDv⟩ := HDv
    rw [HDv.out] at HO2 HD2 HR q2
    simp only at HO2 HD2 HR q2
    go_upto_region 4 with fail
    clear n0 n5 p0 p1 p2 p3
    by_cases t1 : ps.length = 1
    case neg =>
      have e1 : ((ps.length : Int) == 1) = false := decide_ne t1
      have FIN := Lib.hid (show res = false by rw [HR.out, HO2.out, decide_eq_false (fun h => t1 h.1)]; rfl)
      clear HO2 HD2 HR HK HP HN t1
      refine wp_region_plus (by kernel_rfl) (by kernel_rfl) ?_
      repeat (go_big_quiet_step (fail))
      refine wpQuiet_nil ?_
      intro v
      go_wp2
      go_ret
      exact ⟨by rw [FIN.out]; rfl, hx12.trans (plus_ext _ v)⟩
    have e1 : ((ps.length : Int) == 1) = true := by rw [t1]; rfl
    by_cases t2 : 0 ≤ k
    case neg =>
      have FIN := Lib.hid (show res = false by rw [HR.out, HO2.out, decide_eq_false (fun h => t2 h.2.1)]; rfl)
      have e2 : decide (0 ≤ k) = false := decide_eq_false t2
      clear HO2 HD2 HR HK HP HN t1 t2
      refine wp_region_plus (by kernel_rfl) (by kernel_rfl) ?_
      repeat (go_big_quiet_step (fail))
      refine wpQuiet_nil ?_
      intro v
      go_wp2
      go_ret
      exact ⟨by rw [FIN.out]; rfl, hx12.trans (plus_ext _ v)⟩
    have e2 : decide (0 ≤ k) = true := decide_eq_true t2
    by_cases t3 : k < subs.length
    case neg =>
      have FIN := Lib.hid (show res = false by rw [HR.out, HO2.out, decide_eq_false (fun h => t3 h.2.2)]; rfl)
      have e3 : decide (k < (subs.length : Int)) = false := decide_eq_false t3
      clear HO2 HD2 HR HK HP HN t1 t2 t3
      refine wp_region_plus (by kernel_rfl) (by kernel_rfl) ?_
      repeat (go_big_quiet_step (fail))
      refine wpQuiet_nil ?_
      intro v
      go_wp2
      go_ret
      exact ⟨by rw [FIN.out]; rfl, hx12.trans (plus_ext _ v)⟩
    obtain ⟨j, rfl⟩ := Int.eq_ofNat_of_zero_le t2
    have hj : j < subs.length := by omega
    obtain ⟨q, rfl⟩ := len_one t1
    obtain ⟨g, o, svq, rfl, hat, hok⟩ := HP.out.get 0 (by simp)
    obtain ⟨g', o', svj, rfl, hat', hok'⟩ := HN.out.get j hj
    have hr : res = (decide (q.d.a = a) && parseN s.size (leafB s c e) q subs[j] && decide (q.d.b = b)) := by
      rw [HR.out, HO2.out, decide_eq_true ⟨t1, t2, t3⟩, HD2.out, Bool.true_and]
      rw [show (((j : Nat) : Int)).toNat = j from Int.toNat_natCast j, List.getD_eq_getElem?_getD, List.getElem?_eq_getElem hj]
      exact rowN_one _ _ _ _
    have HKq := Lib.hid (fun W (hW : Ext w2 W) => HK.out q (by simp) subs[j] (List.getElem_mem hj) svj svq W (hx12.trans hW) (hok'.ext (hx12.trans hW)) (hok.ext (hx12.trans hW)))
    have HA := Lib.hid (hat.ext hx12)
    have HA' := Lib.hid (hat'.ext hx12)
    have HSp := Lib.hid (fun W => spans_any d q.d (.slice (some ⟨g, o, none⟩) 1 c1) svq W)
    have hsp : decide (d.a = q.d.a ∧ d.b = q.d.b) = decide (a = q.d.a ∧ b = q.d.b) := by rw [HDv.out]
    rw [hsp] at HSp
    simp only [List.getElem_cons_zero, Nat.zero_mul, Nat.add_zero, List.length_singleton] at HA q3 HPA
    clear HK HP HN HO2 HD2 HR hat hat' hok hok' hsp t1
    generalize parseN s.size (leafB s c e) q subs[j] = pr at *
    generalize subs[j] = nj at *
    generalize q.d = dq at *
    obtain ⟨a', b', k'⟩ := dq
    simp only at *
    have d3 : decide ((j : Int) < (subs.length : Int)) = true := decide_eq_true t3
    cases hs : decide (a = a' ∧ b = b')
    · rw [hs] at HSp
      have FIN := Lib.hid (show res = false by
        rw [hr]
        rw [decide_eq_false_iff_not] at hs
        by_cases h1 : a' = a
        · have h2 : ¬ b' = b := fun h => hs ⟨h1.symm, h.symm⟩
          rw [decide_eq_false h2, Bool.and_false]
        · rw [decide_eq_false h1]; rfl)
      clear hr hs
      refine wp_region_plus (by kernel_rfl) (by kernel_rfl) ?_
      repeat (first
        | (go_big_quiet_want; refine quiet_loadPs _ rfl y 0 d _ rfl HPA.out ?_; simp only [Act.put, List.setIfInBounds_toArray, List.set_cons_succ, List.set_cons_zero]; go_big_quiet_on)
        | (go_big_quiet_want; refine quiet_loadPs _ rfl g o ⟨a', b', k'⟩ svq rfl HA.out ?_; simp only [Act.put, List.setIfInBounds_toArray, List.set_cons_succ, List.set_cons_zero]; go_big_quiet_on)
        | (go_big_quiet_step ((go_at_call 105; exact Calls.plus_of (HSp.out _)))))
      refine wpQuiet_nil ?_
      intro v
      go_wp2
      go_ret
      exact ⟨by rw [FIN.out]; rfl, hx12.trans (plus_ext _ v)⟩
    · rw [hs] at HSp
      have FIN := Lib.hid (show res = pr by
        rw [hr]
        rw [decide_eq_true_eq] at hs
        rw [decide_eq_true hs.1.symm, decide_eq_true hs.2.symm, Bool.and_true, Bool.true_and])
      clear hr hs
      refine wp_region_plus (by kernel_rfl) (by kernel_rfl) ?_
      repeat (first
        | (go_big_quiet_want; refine quiet_loadPs _ rfl y 0 d _ rfl HPA.out ?_; simp only [Act.put, List.setIfInBounds_toArray, List.set_cons_succ, List.set_cons_zero]; go_big_quiet_on)
        | (go_big_quiet_want; refine quiet_loadPs _ rfl g o ⟨a', b', k'⟩ svq rfl HA.out ?_; simp only [Act.put, List.setIfInBounds_toArray, List.set_cons_succ, List.set_cons_zero]; go_big_quiet_on)
        | (go_big_quiet_want; refine quiet_loadNd _ rfl g' (o' + j * 10) nj.h svj rfl HA'.out ?_; simp only [Act.put, List.setIfInBounds_toArray, List.set_cons_succ, List.set_cons_zero]; go_big_quiet_on)
        | (go_big_quiet_step ((first
          | (go_at_call 105; exact Calls.plus_of (HSp.out _))
          | (go_at_call 66; exact Calls.plus_of (HKq.out _ (plus_ext _ _)))))))
      refine wpQuiet_nil ?_
      intro v
      go_wp2
      go_ret
      exact ⟨by rw [FIN.out]; rfl, hx12.trans (plus_ext _ v)⟩
  · -- a group
--@GRP
    have HO2 := Lib.hid (show ok = decide (ps.length = 1) by rw [HO.out]; unfold okB; rw [if_neg (by omega), if_pos hkind])
    have HD2 := Lib.hid (show nds = subs by rw [HD.out]; unfold ndsOf; rw [if_neg (by omega), if_neg (by omega)])
    rw [hkind] at n0
    clear HO HD hkind hk
    have q3 := cell_plus p3
    have m5 := cell_plus n5
    have HDv : ∃ a b k, Hid (d = ⟨a, b, k⟩) := ⟨d.a, d.b, d.k, Lib.hid rfl⟩
    obtain ⟨a, b, k, HDv⟩ := HDv
    rw [HDv.out] at HR
    simp only at HR
    go_upto_region 6 with fail
    clear n0 n5 p0 p1 p2 p3
    by_cases t1 : ps.length = 1
    case neg =>
      have e1 : ((ps.length : Int) == 1) = false := decide_ne t1
      have FIN := Lib.hid (show res = false by rw [HR.out, HO2.out, decide_eq_false t1]; rfl)
      clear HO2 HD2 HR HK HP HN t1
      refine wp_region_plus (by kernel_rfl) (by kernel_rfl) ?_
      repeat (go_big_quiet_step (fail))
      refine wpQuiet_nil ?_
      intro v
      go_wp2
      go_ret
      exact ⟨by rw [FIN.out]; rfl, hx12.trans (plus_ext _ v)⟩
    have e1 : ((ps.length : Int) == 1) = true := by rw [t1]; rfl
    obtain ⟨q, rfl⟩ := len_one t1
    obtain ⟨n, rfl⟩ := len_one hs
    obtain ⟨g, o, svq, rfl, hat, hok⟩ := HP.out.get 0 (by simp)
    obtain ⟨g', o', svj, rfl, hat', hok'⟩ := HN.out.get 0 (by simp)
    have hr : res = (decide (q.d.a = a) && parseN s.size (leafB s c e) q n && decide (q.d.b = b)) := by
      rw [HR.out, HO2.out, decide_eq_true t1, HD2.out, Bool.true_and]
      exact rowN_one _ _ _ _
    simp only [List.getElem_cons_zero, Nat.zero_mul, Nat.add_zero, List.length_singleton] at hat hat' hok hok' q3 HPA m5
    have HKq := Lib.hid (fun W (hW : Ext w2 W) => HK.out q (by simp) n (by simp) svj svq W (hx12.trans hW) (hok'.ext (hx12.trans hW)) (hok.ext (hx12.trans hW)))
    have HA := Lib.hid (hat.ext hx12)
    have HA' := Lib.hid (hat'.ext hx12)
    have HSp := Lib.hid (fun W => spans_any d q.d (.slice (some ⟨g, o, none⟩) 1 c1) svq W)
    have hsp : decide (d.a = q.d.a ∧ d.b = q.d.b) = decide (a = q.d.a ∧ b = q.d.b) := by rw [HDv.out]
    rw [hsp] at HSp
    clear HK HP HN HO2 HD2 HR hat hat' hok hok' hsp t1 hs
    generalize parseN s.size (leafB s c e) q n = pr at *
    generalize q.d = dq at *
    generalize n.h = hn at *
    obtain ⟨a', b', k'⟩ := dq
    simp only at *
    cases hs : decide (a = a' ∧ b = b')
    · rw [hs] at HSp
      have FIN := Lib.hid (show res = false by
        rw [hr]
        rw [decide_eq_false_iff_not] at hs
        by_cases h1 : a' = a
        · have h2 : ¬ b' = b := fun h => hs ⟨h1.symm, h.symm⟩
          rw [decide_eq_false h2, Bool.and_false]
        · rw [decide_eq_false h1]; rfl)
      clear hr hs
      refine wp_region_plus (by kernel_rfl) (by kernel_rfl) ?_
      repeat (first
        | (go_big_quiet_want; refine quiet_loadPs _ rfl y 0 d _ rfl HPA.out ?_; simp only [Act.put, List.setIfInBounds_toArray, List.set_cons_succ, List.set_cons_zero]; go_big_quiet_on)
        | (go_big_quiet_want; refine quiet_loadPs _ rfl g o ⟨a', b', k'⟩ svq rfl HA.out ?_; simp only [Act.put, List.setIfInBounds_toArray, List.set_cons_succ, List.set_cons_zero]; go_big_quiet_on)
        | (go_big_quiet_step ((go_at_call 105; exact Calls.plus_of (HSp.out _)))))
      refine wpQuiet_nil ?_
      intro v
      go_wp2
      go_ret
      exact ⟨by rw [FIN.out]; rfl, hx12.trans (plus_ext _ v)⟩
    · rw [hs] at HSp
      have FIN := Lib.hid (show res = pr by
        rw [hr]
        rw [decide_eq_true_eq] at hs
        rw [decide_eq_true hs.1.symm, decide_eq_true hs.2.symm, Bool.and_true, Bool.true_and])
      clear hr hs
      refine wp_region_plus (by kernel_rfl) (by kernel_rfl) ?_
      repeat (first
        | (go_big_quiet_want; refine quiet_loadPs _ rfl y 0 d _ rfl HPA.out ?_; simp only [Act.put, List.setIfInBounds_toArray, List.set_cons_succ, List.set_cons_zero]; go_big_quiet_on)
        | (go_big_quiet_want; refine quiet_loadPs _ rfl g o ⟨a', b', k'⟩ svq rfl HA.out ?_; simp only [Act.put, List.setIfInBounds_toArray, List.set_cons_succ, List.set_cons_zero]; go_big_quiet_on)
        | (go_big_quiet_want; refine quiet_loadNd _ rfl g' o' hn svj rfl HA'.out ?_; simp only [Act.put, List.setIfInBounds_toArray, List.set_cons_succ, List.set_cons_zero]; go_big_quiet_on)
        | (go_big_quiet_step ((first
          | (go_at_call 105; exact Calls.plus_of (HSp.out _))
          | (go_at_call 66; exact Calls.plus_of (HKq.out _ (plus_ext _ _)))))))
      refine wpQuiet_nil ?_
      intro v
      go_wp2
      go_ret
      exact ⟨by rw [FIN.out]; rfl, hx12.trans (plus_ext _ v)⟩
--@ENDGRP
  · -- a repeat
--@REP
    have HO2 := Lib.hid (show ok = admB h d ps by rw [HO.out]; unfold okB; rw [if_neg (by omega), if_neg (by omega), if_neg (by omega)])
    have HD2 := Lib.hid (show nds = List.replicate ps.length (subs.getD 0 ndInh.default) by rw [HD.out]; unfold ndsOf; rw [if_neg (by omega), if_pos hkind])
    have HAd := Lib.hid (fun W (hW : Ext w W) => admitted_any h (.slice A' subs.length c2) d ps (.slice A ps.length c1) W (HP.out.ext hW) hm0 hlen)
    rw [hkind] at n0
    have hs0 : 0 < subs.length := by omega
    clear HO HD hkind hk hs
    rw [← HO2.out] at HAd
    cases ok
    · have FIN := Lib.hid (show res = false from HR.out)
      clear HO2 HD2 HR HK HP HN
      go_wp2_with (first
        | (refine wpl_loadNd rfl _ rfl z 0 h _ rfl HNA.out ?_)
        | (refine wpl_loadPs rfl _ rfl y 0 d _ rfl HPA.out ?_)
        | (go_at_call 106; refine (HAd.out _ hx12).mono ?_; rintro e w3 ⟨rfl, hx3⟩))
      go_ret
      exact ⟨by rw [FIN.out]; rfl, hx12.trans hx3⟩
    have HR2' := Lib.hid (show res = rowN s.size (leafB s c e) (ps.drop 0) (nds.drop 0) d.a d.b from HR.out)
    clear HR HO2
    go_upto_region 13 with (first
      | (refine wpl_loadNd rfl _ rfl z 0 h _ rfl HNA.out ?_)
      | (refine wpl_loadPs rfl _ rfl y 0 d _ rfl HPA.out ?_)
      | (go_at_call 106; refine (HAd.out _ hx12).mono ?_; rintro e w3 ⟨rfl, hx3⟩))
    replace n0 := hx3.cell n0
    replace n5 := hx3.cell n5
    replace p0 := hx3.cell p0
    replace p1 := hx3.cell p1
    replace p2 := hx3.cell p2
    replace p3 := hx3.cell p3
    replace hx12 := hx12.trans hx3
    have HR2 := HR2'
    clear HNA HAd hx3 HR2'
    go_upto_region 15 with fail
    have hx22 := Ext.refl w3
    clear p0 p2 HPA
    go_loopw [8, 98] (fun at_ i wr => ∃ (k : Nat) (p : Int), k ≤ ps.length ∧ i = .int .i64 k ∧ at_ = .int .i64 p ∧ Hid (res = rowN s.size (leafB s c e) (ps.drop k) (nds.drop k) p d.b) ∧ Ext w3 wr) (fun _ i _ => ps.length - (intOf i).toNat)
    case atStart => exact ⟨0, d.a, Nat.zero_le _, rfl, rfl, HR2, hx22⟩
    case round =>
      clear hx22 HR2
      obtain ⟨k, p, hk, rfl, rfl, hr, hx⟩ := hrel
      have hx12' := hx12.trans hx
      by_cases hlt : k < ps.length
      · obtain ⟨g, o, svq, rfl, hat, hok⟩ := HP.out.get k hlt
        have hj : 0 < subs.length := hs0
        obtain ⟨g', o', svj, rfl, hat', hok'⟩ := HN.out.get 0 hj
        rw [Nat.zero_mul, Nat.add_zero] at hat'
        have t2 : (0 : Int) < (subs.length : Int) := by omega
        have hkn : k < nds.length := by rw [HD2.out, List.length_replicate]; exact hlt
        have hnd : nds[k] = subs[0] := by simp only [HD2.out, List.getElem_replicate]; rw [List.getD_eq_getElem?_getD, List.getElem?_eq_getElem hj]; rfl
        have hst := hr.out.trans (rowN_step hlt hkn p d.b)
        rw [hnd] at hst
        have HKq := Lib.hid (fun W (hW : Ext wr W) => HK.out ps[k] (List.getElem_mem hlt) subs[0] (List.getElem_mem hj) svj svq W (hx12'.trans hW) (hok'.ext (hx12'.trans hW)) (hok.ext (hx12'.trans hW)))
        have hatx := hat.ext hx12'
        have HSQ := Lib.hid hok.sl
        have HA' := Lib.hid (hat'.ext hx12')
        have HST := Lib.hid hst
        have n0' := hx.cell n0
        have n5' := hx.cell n5
        clear hst hnd hkn HK HP HN hat hat' hok hok' hr n0 n5 HD2
        generalize parseN s.size (leafB s c e) ps[k] subs[0] = pr at *
        generalize subs[0] = nj at *
        clear hj
        skip
        generalize ps[k] = q at *
        generalize q.d = dq at *
        generalize nj.h = hn at *
        have t1 : (k : Int) < (ps.length : Int) := by omega
        go_upto_region 17 with (first
          | (refine wpl_loadPs rfl _ rfl g (o + k * 4) dq svq rfl hatx ?_)
          | (refine wpl_allocPs rfl rfl ?_; intro b w5 hb hx3 eb sb)
          | (refine wpl_storePs rfl _ _ rfl rfl b dq ⟨0, 0, 0⟩ svq _ rfl rfl HSQ.out hb ?_; intro w4 hb4 hk4))
        have hx34 := hx3.keep1 hk4 eb
        have hx4 := hx.trans hx34
        have hx14 := hx12'.trans hx34
        replace n0' := hx34.cell n0'
        replace n5' := hx34.cell n5'
        have HKr := Lib.hid (fun W (hW : Ext w4 W) => HKq.out W (hx34.trans hW))
        have HA2 := Lib.hid (HA'.out.ext hx34)
        have HB2 := Lib.hid hb4.ps
        have b0 : w4.cell? ⟨b, 0, none⟩ = some (.int .i64 dq.a) := hb4.cell 0
        have b1 := cell_plus (show w4.cell? ⟨b, 1, none⟩ = some (.int .i64 dq.b) from hb4.cell 1)
        have r0 := cell_plus b0
        have r5 := cell_plus n5'
        clear hb hx3 hk4 eb sb hx34 hatx HKq HA' HSQ hb4
        generalize dq.a = qa at *
        generalize dq.b = qb at *
        go_upto_region 20 with fail
        clear n0' n5' b0
        by_cases hfr : qa = p
        · have e1 : (qa != p) = false := by simpa using hfr
          have HS2 := Lib.hid (show res = (pr && rowN s.size (leafB s c e) (ps.drop (k + 1)) (nds.drop (k + 1)) qb d.b) by rw [HST.out, decide_eq_true hfr, Bool.true_and])
          clear HST hfr
          refine wp_region_plus (by kernel_rfl) (by kernel_rfl) ?_
          repeat (first
            | (go_big_quiet_want; refine quiet_loadPs _ rfl b 0 dq svq rfl HB2.out ?_; simp only [Act.put, List.setIfInBounds_toArray, List.set_cons_succ, List.set_cons_zero]; go_big_quiet_on)
            | (go_big_quiet_want; refine quiet_loadNd _ rfl g' (o') hn svj rfl HA2.out ?_; simp only [Act.put, List.setIfInBounds_toArray, List.set_cons_succ, List.set_cons_zero]; go_big_quiet_on)
            | (go_big_quiet_step ((go_at_call 66; exact Calls.plus_of (HKr.out _ (plus_ext _ _))))))
          refine wpQuiet_nil ?_
          intro v
          have hb1 := b1 v
          clear b1 r0 r5
          cases pr
          · have FIN := Lib.hid (show res = false from HS2.out)
            clear HS2
            go_wp2
            go_ret
            exact ⟨by rw [FIN.out]; rfl, hx14.trans (plus_ext _ v)⟩
          · have HS3 := Lib.hid (show res = rowN s.size (leafB s c e) (ps.drop (k + 1)) (nds.drop (k + 1)) qb d.b by rw [HS2.out, Bool.true_and])
            clear HS2
            go_wp2
            go_roundw
            case rel => exact ⟨k + 1, qb, by omega, by go_num, rfl, HS3, hx4.trans (plus_ext _ v)⟩
            case measure => simp [intOf]; omega
        · have e1 : (qa != p) = true := by simpa using hfr
          have FIN := Lib.hid (show res = false by rw [HST.out, decide_eq_false hfr]; rfl)
          clear HST hfr
          refine wp_region_plus (by kernel_rfl) (by kernel_rfl) ?_
          repeat (go_big_quiet_step (fail))
          refine wpQuiet_nil ?_
          intro v
          clear b1 r0 r5
          go_wp2
          go_ret
          exact ⟨by rw [FIN.out]; rfl, hx14.trans (plus_ext _ v)⟩
      · have FIN := Lib.hid (hr.out.trans (rowN_done (by omega) p d.b))
        have t1 : ¬ (k : Int) < (ps.length : Int) := by omega
        have p1' := hx.cell p1
        clear HK HP HN hr
        have HBQ := Lib.hid (show decide (p = d.b) = (p == d.b) by rw [Bool.eq_iff_iff]; simp)
        generalize d.b = db at *
        go_wp2
        go_ret
        exact ⟨by rw [FIN.out, HBQ.out]; rfl, hx12'⟩
--@ENDREP
end

end Go.Proofs.YthddlhpndaffjaaDoor
