/- normal.form and Normal as contracts. Condition: the tree lies in memory, clean; the error values lie where they lie. A region that draws its order and in whose midst an operation writes: what that one waits for is taken first; the others after it come one behind the other. No condition. trawlref04's form in plain words: what it asks of a node is what tree asks. No program. trawlref04.Form as a contract. Condition: the tree lies in memory, its lists are short. -/
import Derived.Test.YtkcgbdoplhgbmaaDoorZNormalLessAH
import Derived.Test.YtkcgbdoplhgbmaaDoorZNormalLessAE
import Derived.Test.YtkcgbdoplhgbmaaDoorInv
import Derived.OrdersHeld
import Derived.Test.YtkcgbdoplhgbmaaDoorZNormalLessAF
namespace Go.Proofs.YtkcgbdoplhgbmaaDoor
open Go Go.RowKit

set_option maxRecDepth 100000 in
set_option maxHeartbeats 8000000 in
theorem nform_any : ∀ (n : Nd) (sv : Value) (w : World), NdOk w n sv → okN n → cntN n ≤ 1000000 →
    Calls Tryd.prog 60 #[nodeV n.h sv] w (RetNd w (normN n)) := by
  refine Nd.ind fun hd subs ih sv w hn hok hcnt => ?_
  obtain ⟨A, c, rfl⟩ := hn.shape
  obtain ⟨f1, f2⟩ := form_at hok.1
  obtain ⟨c1, c2⟩ := cl_at hok.2
  have hsm := cnt_small _ hcnt
  have hcl : cntL subs ≤ 1000000 := by rw [cntN] at hcnt; omega
  have hlen : subs.length ≤ 1000000 := by have := cntL_len subs; omega
  have hoks : ∀ n ∈ subs, okN n := fun n hm => ⟨f2 n hm, c2 n hm⟩
  have IH := Lib.hid (fun n (hm : n ∈ subs) sv w (hn : NdOk w n sv) => ih n hm sv w hn (hoks n hm) (by have := cntL_mem hm; omega))
  have HFR := Lib.hid (fun W (hW : Ext w W) => free_any (.mk hd subs) _ W (hn.ext hW) hsm)
  have HSI := Lib.hid (fun W (hW : Ext w W) (hf : freeN (.mk hd subs) = true) => nsimple_any (.mk hd subs) _ W (hn.ext hW) hok hf hcnt)
  have HN := Lib.hid hn
  have HR := Lib.hid (by rw [normN] : normN (.mk hd subs) = if freeN (.mk hd subs) = true then simpN (.mk hd subs) else .mk hd (normL subs))
  clear ih hn hok hcnt f1 f2 c1 c2 hsm hcl hoks
  generalize normN (.mk hd subs) = res at *
  generalize freeN (.mk hd subs) = fr at *
  generalize simpN (.mk hd subs) = sm at *
  simp only [Nd.subs] at *
  show Calls _ _ #[nodeV hd _] _ _
  have HFR' := Lib.hid (fun W (hW : Ext w W) => (HFR.out W hW : Calls Tryd.prog 20 #[nodeV hd (.slice A subs.length c)] W fun r w' => r = .returned (.bool fr) ∧ Ext W w'))
  clear HFR
  go_enter Tryd.func60, Tryd.ntmps60
  go_upto_region 1 with (first
    | (refine wpl_boxNd rfl _ rfl hd _ rfl ?_; intro b w1 hb hx1 eb sb)
    | (refine wpl_allocNd rfl rfl ?_; intro z w2 hz hx2 ez sz))
  have hx12 := hx1.trans hx2
  replace hb := hb.ext hx2
  have hbz : b < z := by omega
  have hwb : w.heap.size ≤ b := eb
  have hwz : w.heap.size ≤ z := by omega
  have h12 := hx12.size
  have hzl := hz.lt
  clear hx1 hx2 eb ez
  cases fr
  · have HE := Lib.hid (HR.out.trans (if_neg (by decide)))
    clear HR HSI
    go_upto_region 3 with (first
      | (refine wpl_loadNd rfl _ rfl b 0 hd _ rfl hb.nd ?_)
      | (go_at_call 20; refine (HFR'.out _ hx12).mono ?_; rintro e w3 ⟨rfl, hx3⟩))
    replace hb := hb.ext hx3
    replace hz := hz.ext hx3
    have hx13 := hx12.trans hx3
    have hs3 := hx3.size
    have c5 : w3.cell? ⟨b, 5, none⟩ = some (.slice A subs.length c) := hb.cell 5
    have hL0 : LstFp w3 w3.heap.size 27 (.slice none 0 0) [] := LstFp.nil _ _ _
    have hx33 : Ext w3 w3 := Ext.refl w3
    clear hx12 hx3 HFR'
    go_wp2
    go_loopw [3, 13] (fun v i wr => ∃ (k : Nat) (l : List Kid), k ≤ subs.length ∧ i = .int .i64 k ∧ l.map (·.1) = normL (subs.take k) ∧ LstFp wr w3.heap.size 27 v l ∧ Ext w3 wr) (fun _ i _ => subs.length - (intOf i).toNat)
    case atStart => exact ⟨0, [], Nat.zero_le _, rfl, by rw [List.take_zero, normL]; rfl, hL0, hx33⟩
    case round =>
      clear hL0 hx33
      obtain ⟨k, l, hk, rfl, hl, hL, hx⟩ := hrel
      have HL := Lib.hid hl
      clear hl
      have hxw := hx13.trans hx
      by_cases hlt : k < subs.length
      · obtain ⟨g0, o0, sv, rfl, hat, hok⟩ := HN.out.get k hlt
        replace hat := hat.ext hxw
        have IHk := Lib.hid (fun w' (hw' : Ext wr w') => IH.out subs[k] (List.getElem_mem hlt) sv w' (NdOk.ext (hxw.trans hw') _ _ hok))
        have HM := Lib.hid (show (l.map (·.1)) ++ [normN subs[k]] = normL (subs.take (k + 1)) by rw [HL.out, take_snoc subs k hlt, normL_map, normL_map, List.map_append]; rfl)
        have hll : l.length = k := by have := congrArg List.length HL.out; rw [normL_map] at this; simp at this; omega
        have hll2 : l.length ≤ 1000000000 := by omega
        have hsh := hok.sl
        clear IH HN HL hll HE hok
        generalize normN subs[k] = ek at *
        generalize subs[k] = nk at *
        have d1 : (k : Int) < (subs.length : Int) := by omega
        go_wp2_with (first
          | (refine wpl_loadNd rfl _ rfl g0 (o0 + k * 10) nk.h sv rfl hat ?_)
          | (refine wpl_allocNd rfl rfl ?_; intro s w4 hs hx4 es ss)
          | (refine wpl_storeNd rfl _ _ rfl rfl s nk.h _ sv _ rfl rfl hsh hs ?_; intro w5 hs5 hk5; have hx5 := hx4.keep1 hk5 es)
          | (refine wpl_loadNd rfl _ rfl s 0 nk.h sv rfl hs5.nd ?_)
          | (go_at_call 60; refine (IHk.out _ hx5).mono ?_; rintro e w6 ⟨sv6, rfl, hn6, hx6⟩)
          | (refine wpl_oneNd rfl _ rfl ek.h sv6 rfl ?_; intro g7 w7 hb7 hx7 e7 s7)
          | (refine wpl_appFp rfl _ _ rfl w3.heap.size u3 l ek sv6 g7 1 wr rfl rfl hL ((hx5.trans hx6).trans hx7) hx.size ((hn6.ext hx7).mono hx5.size) hb7 hll2 ?_; intro v8 w8 hL8 hx78 hg8))
        have hx8 : Ext w3 w8 := ext_grown_lst (hx.trans hx78) hL (Nat.le_refl _) hg8
        obtain ⟨f, hL8⟩ := hL8
        clear hL hx hat hs hx4 es ss hs5 hk5 hx5 hn6 hx6 hb7 hx7 hg8 hx78 e7 s7 hsh hxw
        go_roundw
        case rel => exact ⟨k + 1, l ++ [(ek, sv6, f)], by omega, by go_num, by simpa using HM.out, hL8, hx8⟩
        case measure => simp [intOf]; omega
      · have hkl : subs.take k = subs := List.take_of_length_le (by omega)
        rw [hkl] at HL
        have hb3 := hb.ext hx
        have hz3 := hz.ext hx
        have HN2 := Lib.hid (hL.node hd)
        rw [HL.out, ← HE.out] at HN2
        have hd1 : ¬ (k : Int) < (subs.length : Int) := by omega
        obtain ⟨A', c', rfl, _⟩ := hL.len
        have hres : res.h = hd := by rw [HE.out]; rfl
        have HRH := Lib.hid hres
        clear hkl IH HN HL c5 hL hres
        go_wp2_with (first
          | (refine wpl_storeSubs rfl _ _ rfl rfl b hd _ _ rfl rfl (isSl_mk _ _ _) hb3 ?_; intro w4 hb4 hk4)
          | (refine wpl_loadNd rfl _ rfl b 0 hd _ rfl hb4.nd ?_)
          | (refine wpl_storeNd rfl _ _ rfl rfl z hd _ _ _ rfl rfl (isSl_mk _ _ _) (hz3.keep1 hk4 (by omega)) ?_; intro w5 hz5 hk5))
        exact ret_nd rfl rfl rfl hz5 ⟨.slice A' l.length c', by rw [HRH.out]; rfl, ((HN2.out.keep1 hk4 (by omega)).keep1 hk5 (by omega)).mono (by omega), ((hx13.trans hx).keep1 hk4 hwb).keep1 hk5 hwz⟩
  · have HE := Lib.hid (HR.out.trans (if_pos rfl))
    have HSI2 := Lib.hid (fun W hW => (HSI.out W hW rfl : Calls Tryd.prog 83 #[nodeV hd (.slice A subs.length c)] W (RetNd W sm)))
    clear HR IH HN HSI
    go_wp2_with (first
      | (refine wpl_loadNd rfl _ rfl b 0 hd _ rfl hb.nd ?_)
      | (go_at_call 20; refine (HFR'.out _ hx12).mono ?_; rintro e w3 ⟨rfl, hx3⟩)
      | (refine wpl_loadNd rfl _ rfl b 0 hd _ rfl (hb.ext hx3).nd ?_)
      | (go_at_call 83; refine (HSI2.out _ (hx12.trans hx3)).mono ?_; rintro e w4 ⟨sv4, rfl, hn4, hx4⟩)
      | (refine wpl_storeNd rfl _ _ rfl rfl z _ _ sv4 _ rfl rfl hn4.ok.sl (hz.ext (hx3.trans hx4)) ?_; intro w5 hz5 hk5))
    have := hx3.size
    exact ret_nd rfl rfl rfl hz5 ⟨sv4, by rw [HE.out], by rw [HE.out]; exact (hn4.keep1 hk5 (by omega)).mono (by omega), ((hx12.trans hx3).trans hx4).keep1 hk5 hwz⟩

/-- What Normal answers. -/
theorem few_cnt {n : Nd} {m : Int} (hm : m ≤ 1000000) (hfew : 0 ≤ leftN n m) : cntN n ≤ 1000000 := by
  have := left_cnt n m hfew
  omega

set_option maxRecDepth 100000 in
set_option maxHeartbeats 4000000 in
theorem normal_any (n : Nd) (sv : Value) (w : World) (A : Nat → Addr) (m : Int) (hn : NdOk w n sv) (hc : clN n) (hE : Err3 w A) (hm : m ≤ 1000000) (hfew : 0 ≤ leftN n m) :
    Calls Tryd.prog 16 #[nodeV n.h sv] w (RetNdE w A (normN n) (chkN n)) := by
  have hcnt := few_cnt hm hfew
  have H1 := Lib.hid (fun W (hW : Ext w W) => check_any n sv W A m (hn.ext hW) (hE.ext hW) hm hfew)
  have H2 := Lib.hid (fun W (hW : Ext w W) (hf : chkN n = 0) => nform_any n sv W (hn.ext hW) ⟨(chk_ok hf).1, hc⟩ hcnt)
  have H3 := Lib.hid (fun (hf : chkN n = 0) W svx (hx : NdOk W (normN n) svx) => copy_any (normN n) svx W hx (cnt_small _ (Nat.le_trans (cnt_norm n ⟨(chk_ok hf).1, hc⟩) hcnt)))
  clear hE hn hm hfew hc hcnt
  generalize chkN n = ck at *
  generalize normN n = res at *
  generalize n.h = hd at *
  go_enter Tryd.func16, Tryd.ntmps16
  go_upto_region 1 with (first
    | (refine wpl_boxNd rfl _ rfl hd _ rfl ?_; intro b w1 hb hx1 eb sb)
    | (refine wpl_allocNd rfl rfl ?_; intro z w2 hz hx2 ez sz))
  have h1 := hx1.size
  by_cases hk : ck = 0
  · subst hk
    have H2' := Lib.hid (fun W hW => H2.out W hW rfl)
    have H3' := Lib.hid (H3.out rfl)
    have H1' := Lib.hid (fun W hW => (by have := H1.out W hW; rwa [errR, if_pos rfl] at this : Calls Tryd.prog 23 #[nodeV hd sv] W fun r w' => r = .returned .nilIface ∧ Ext W w'))
    clear H1 H2 H3
    go_wp2_with (first
      | (refine wpl_loadNd rfl _ rfl b 0 hd _ rfl (hb.ext hx2).nd ?_)
      | (go_at_call 23; refine (H1'.out _ (hx1.trans hx2)).mono ?_; rintro e w3 ⟨rfl, hx3⟩)
      | (refine wpl_loadNd rfl _ rfl b 0 hd _ rfl (hb.ext (hx2.trans hx3)).nd ?_)
      | (go_at_call 60; refine (H2'.out _ ((hx1.trans hx2).trans hx3)).mono ?_; rintro e w4 ⟨sv4, rfl, hn4, hx4⟩)
      | (go_at_call 59; refine (H3'.out _ _ hn4.ok).mono ?_; rintro e w4' ⟨sv4', rfl, hn4', hx4'⟩)
      | (refine wpl_storeNd rfl _ _ rfl rfl z res.h _ sv4' _ rfl rfl hn4'.ok.sl (hz.ext ((hx3.trans hx4).trans hx4')) ?_; intro w5 hz5 hk5))
    have h2 := hx2.size
    have h3 := hx3.size
    have h4 := hx4.size
    exact ret_nd2 rfl rfl rfl rfl hz5 ⟨sv4', rfl, ((show NdNew w4.heap.size w4' (resN res 0) sv4' from hn4').keep1 hk5 (by omega)).mono (by omega), ((((hx1.trans hx2).trans hx3).trans hx4).trans hx4').keep1 hk5 (by omega)⟩
  · have H1' := Lib.hid (fun W hW => (by have := H1.out W hW; rwa [errR, if_neg hk] at this : Calls Tryd.prog 23 #[nodeV hd sv] W fun r w' => r = .returned (errV (A (ck - 1))) ∧ Ext W w'))
    have HE := Lib.hid (show errR A ck = errV (A (ck - 1)) from if_neg hk)
    have HR := Lib.hid (show resN res ck = .mk (hdV 0) [] from if_neg hk)
    clear H1 H2 H3
    unfold errV at *
    go_wp2_with (first
      | (refine wpl_loadNd rfl _ rfl b 0 hd _ rfl (hb.ext hx2).nd ?_)
      | (go_at_call 23; refine (H1'.out _ (hx1.trans hx2)).mono ?_; rintro e w3 ⟨rfl, hx3⟩)
      | (refine wpl_storeNd rfl _ _ rfl rfl z (hdV 0) _ (.slice none 0 0) _ rfl (node_lit _ _ _ _ _ _) (isSl_mk _ _ _) (hz.ext hx3) ?_; intro w5 hz5 hk5))
    exact ret_nd2 rfl rfl rfl rfl hz5 ⟨_, by rw [HE.out, HR.out]; rfl, by rw [HR.out]; exact NdNew.nil _ _ _ _ _, ((hx1.trans hx2).trans hx3).keep1 hk5 (by omega)⟩

end Go.Proofs.YtkcgbdoplhgbmaaDoor

namespace Go.Proofs.YtkcgbdoplhgbmaaDoor
open Go Go.RowKit

section
variable {P : Program} {ops : Array Oper} {md : Region.Mode} {Q : Exit → Act → World → Prop} {S : World → Prop} {m : Nat}

/-- As wpAny, and S holds behind each operation ahead of number m. -/
def wpAnyM (P : Program) (md : Region.Mode) (ops : Array Oper) (Q : Exit → Act → World → Prop) (S : World → Prop) (m : Nat) : Nat → Array Bool → Act → World → Prop
  | 0, listed, a, w => Region.ready md ops listed = [] ∧ Q .normal a w
  | f + 1, listed, a, w => (Region.ready md ops listed = [] → Q .normal a w) ∧
      ∀ i ∈ Region.ready md ops listed, wpOp P ops Q i (fun a' w' => if i = m then wpAny P md ops Q f (listed.setIfInBounds i true) a' w' else S w' ∧ wpAnyM P md ops Q S m f (listed.setIfInBounds i true) a' w') a w
theorem wpAny_of_mid : ∀ (f : Nat) (listed : Array Bool) (a : Act) (w : World), wpAnyM P md ops Q S m f listed a w → wpAny P md ops Q f listed a w
  | 0, _, _, _, h => h
  | f + 1, _, _, _, h => ⟨h.1, fun i hi => wpOp_mono (fun a' w' h' => by
      by_cases he : i = m
      · rw [if_pos he] at h'; exact h'
      · rw [if_neg he] at h'; exact wpAny_of_mid f _ a' w' h'.2) (h.2 i hi)⟩

/-- Each of cs waits for i or for one of cs. -/
def waitB (md : Region.Mode) (ops : Array Oper) (i : Nat) (cs : List Nat) : Bool := cs.all fun c => (depsL md ops c).any fun d => d == i || cs.contains d
theorem wait_not {i j : Nat} {cs : List Nat} {listed : Array Bool} (hw : waitB md ops i cs = true) (hj : j ∈ Region.ready md ops listed) (hi : listed.getD i true = false) (hcs : ∀ c ∈ cs, listed.getD c true = false) : j ∉ cs := fun hm => by
  have h1 := List.all_eq_true.1 hw j hm
  obtain ⟨d, hd, h2⟩ := List.any_eq_true.1 h1
  obtain ⟨_, o, ho, hall⟩ := mem_ready.1 hj
  unfold depsL at hd
  rw [ho] at hd
  obtain ⟨e, he, rfl⟩ := List.mem_map.1 hd
  obtain ⟨he1, he2⟩ := List.mem_filter.1 he
  have h3 := hall e (by simpa using he1) he2
  rcases Bool.or_eq_true _ _ ▸ h2 with h2 | h2
  · rw [beq_iff_eq] at h2
    rw [h2, getD_both hi] at h3
    cases h3
  · rw [getD_both (hcs _ (by simpa using h2))] at h3
    cases h3
theorem wpAnyM_first {i : Nat} {oi : Oper} {v : Value} {cs : List Nat} (hi : ops[i]? = some oi) (hsel : ∀ (j : Nat) (o : Oper) cs b, ops[j]? = some o → o.op ≠ .select cs b)
    (hQ : ∀ c a w, Q (.panic c) (a.put oi.dst v) w → Q (.panic c) a w) (hw : waitB md ops i cs = true) (hm : m ∈ cs) (him : i ∉ cs) :
    ∀ (f : Nat) (listed : Array Bool) (a : Act) (w : World),
      (∀ j oj, ops[j]? = some oj → j ≠ i → listed.getD j true = false → (∀ e ∈ oj.after, Region.binds md e = true → e.on ≠ i) → oi.apart ops oj = true) →
      i ∈ Region.ready md ops listed → (∀ c ∈ cs, listed.getD c true = false) → YieldsIf P ops S oi v a → S w →
      wpAnyM P md ops Q S m f (listed.setIfInBounds i true) (a.put oi.dst v) w → wpAnyM P md ops Q S m (f + 1) listed a w := by
  have hne : i ≠ m := fun e => him (e ▸ hm)
  intro f
  induction f with
  | zero =>
    intro listed a w _ hr hcs hy hS H
    refine ⟨fun h => (by rw [h] at hr; cases hr), fun j hj => ?_⟩
    by_cases hji : j = i
    · subst hji
      exact hy.wpOp hi hS (by rw [if_neg hne]; exact ⟨hS, H⟩)
    · have := ready_mono hj hji
      rw [H.1] at this
      cases this
  | succ f ih =>
    intro listed a w hfree hr hcs hy hS H
    refine ⟨fun h => (by rw [h] at hr; cases hr), fun j hj => ?_⟩
    by_cases hji : j = i
    · subst hji
      exact hy.wpOp hi hS (by rw [if_neg hne]; exact ⟨hS, H⟩)
    · have h1 := H.2 j (ready_mono hj hji)
      obtain ⟨hjun, oj, hoj, hall⟩ := mem_ready.1 hj
      have hun := (mem_ready.1 hr).1
      have hjc := wait_not hw hj hun hcs
      have hjm : j ≠ m := fun e => hjc (e ▸ hm)
      have hnot : ∀ e ∈ oj.after, Region.binds md e = true → e.on ≠ i := fun e he hb heq => by
        have h1 := hall e he hb
        rw [heq, getD_both hun] at h1
        cases h1
      have hap := hfree j oj hoj hji hjun hnot
      have h2 := wpOp_putIf hoj hap (fun cs b => hsel i oi cs b hi) (fun cs b => hsel j oj cs b hoj) hQ hy h1
      refine wpOp_mono (fun a' w' h3 => ?_) h2
      rw [if_neg hjm]
      have h4 := h3.2
      rw [if_neg hjm] at h4
      refine ⟨h4.1, ih (listed.setIfInBounds j true) a' w' (fun k ok hk hki hk2 hno => ?_) (ready_mono hr (Ne.symm hji)) (fun c hc => ?_) h3.1 h4.1 ?_⟩
      · refine hfree k ok hk hki ?_ hno
        by_cases hjk : j = k
        · subst hjk; exact hjun
        · rw [getD_set_ne true hjk] at hk2; exact hk2
      · rw [getD_set_ne true (fun e => by subst e; exact hjc hc)]
        exact hcs c hc
      · rw [Array.setIfInBounds_comm _ _ hji]
        exact h4.2
/-- Take number i first; cs: those from it to number m that wait for it. -/
theorem wpAnyM_take {i : Nat} {oi : Oper} {v : Value} {f : Nat} {listed : Array Bool} {a : Act} {w : World} (cs : List Nat) (hi : ops[i]? = some oi)
    (hs : Region.noSelect ops = true) (hf : Region.free md ops listed i = true) (hr : (Region.ready md ops listed).contains i = true)
    (hw : (waitB md ops i cs && cs.contains m && !cs.contains i && cs.all fun c => !listed.getD c true) = true)
    (hQ : ∀ c a w, Q (.panic c) (a.put oi.dst v) w → Q (.panic c) a w) (hS : S w) (hy : YieldsIf P ops S oi v a)
    (h : wpAnyM P md ops Q S m f (listed.setIfInBounds i true) (a.put oi.dst v) w) : wpAnyM P md ops Q S m (f + 1) listed a w := by
  simp only [Bool.and_eq_true, Bool.not_eq_true', List.all_eq_true] at hw
  obtain ⟨⟨⟨h1, h2⟩, h3⟩, h4⟩ := hw
  exact wpAnyM_first hi (Region.noSelect_spec hs) hQ h1 (by simpa using h2) (by simpa using h3) f listed a w (Region.free_spec hi hf) (by simpa using hr) h4 hy hS h
theorem wpAnyM_firstP {i : Nat} {oi : Oper} {v : Value} (hi : ops[i]? = some oi) (hsel : ∀ (j : Nat) (o : Oper) cs b, ops[j]? = some o → o.op ≠ .select cs b)
    (hQ : ∀ c a w, Q (.panic c) (a.put oi.dst v) w → Q (.panic c) a w) (hne : i ≠ m) :
    ∀ (f : Nat) (listed : Array Bool) (a : Act) (w : World),
      (∀ j oj, ops[j]? = some oj → j ≠ i → listed.getD j true = false → (∀ e ∈ oj.after, Region.binds md e = true → e.on ≠ i) → oi.apart ops oj = true) →
      i ∈ Region.ready md ops listed → Yields P ops oi v a → S w →
      wpAnyM P md ops Q S m f (listed.setIfInBounds i true) (a.put oi.dst v) w → wpAnyM P md ops Q S m (f + 1) listed a w := by
  intro f
  induction f with
  | zero =>
    intro listed a w _ hr hy hS H
    refine ⟨fun h => (by rw [h] at hr; cases hr), fun j hj => ?_⟩
    by_cases hji : j = i
    · subst hji
      exact hy.wpOp hi (by rw [if_neg hne]; exact ⟨hS, H⟩)
    · have := ready_mono hj hji
      rw [H.1] at this
      cases this
  | succ f ih =>
    intro listed a w hfree hr hy hS H
    refine ⟨fun h => (by rw [h] at hr; cases hr), fun j hj => ?_⟩
    by_cases hji : j = i
    · subst hji
      exact hy.wpOp hi (by rw [if_neg hne]; exact ⟨hS, H⟩)
    · have h1 := H.2 j (ready_mono hj hji)
      obtain ⟨hjun, oj, hoj, hall⟩ := mem_ready.1 hj
      have hun := (mem_ready.1 hr).1
      have hnot : ∀ e ∈ oj.after, Region.binds md e = true → e.on ≠ i := fun e he hb heq => by
        have h1 := hall e he hb
        rw [heq, getD_both hun] at h1
        cases h1
      have hap := hfree j oj hoj hji hjun hnot
      have h2 := wpOp_put hoj hap (fun cs b => hsel i oi cs b hi) (fun cs b => hsel j oj cs b hoj) hQ hy h1
      have hfree2 : ∀ k ok, ops[k]? = some ok → k ≠ i → (listed.setIfInBounds j true).getD k true = false → (∀ e ∈ ok.after, Region.binds md e = true → e.on ≠ i) → oi.apart ops ok = true := fun k ok hk hki hk2 hno => by
        refine hfree k ok hk hki ?_ hno
        by_cases hjk : j = k
        · subst hjk; exact hjun
        · rw [getD_set_ne true hjk] at hk2; exact hk2
      refine wpOp_mono (fun a' w' h3 => ?_) h2
      have h4 := h3.2
      by_cases hjm : j = m
      · rw [if_pos hjm] at h4 ⊢
        refine wpAny_first hi hsel hQ f _ a' w' hfree2 (ready_mono hr (Ne.symm hji)) h3.1 ?_
        rw [Array.setIfInBounds_comm _ _ hji]
        exact h4
      · rw [if_neg hjm] at h4 ⊢
        refine ⟨h4.1, ih (listed.setIfInBounds j true) a' w' hfree2 (ready_mono hr (Ne.symm hji)) h3.1 h4.1 ?_⟩
        rw [Array.setIfInBounds_comm _ _ hji]
        exact h4.2
/-- Take number i first, which does not look at the world. -/
theorem wpAnyM_pure {i : Nat} {oi : Oper} {v : Value} {f : Nat} {listed : Array Bool} {a : Act} {w : World} (hi : ops[i]? = some oi)
    (hs : Region.noSelect ops = true) (hf : Region.free md ops listed i = true) (hr : (Region.ready md ops listed).contains i = true) (hne : i ≠ m)
    (hQ : ∀ c a w, Q (.panic c) (a.put oi.dst v) w → Q (.panic c) a w) (hS : S w) (hg : oi.guard = none) (hy : ∀ w, (execOp a.eval oi).run P w = .ok (.value v) w)
    (h : wpAnyM P md ops Q S m f (listed.setIfInBounds i true) (a.put oi.dst v) w) : wpAnyM P md ops Q S m (f + 1) listed a w :=
  wpAnyM_firstP hi (Region.noSelect_spec hs) hQ hne f listed a w (Region.free_spec hi hf) (by simpa using hr) (.inl ⟨by simp [Region.wanted, hg], hy⟩) hS h
/-- The one that comes up next, ahead of number m. -/
theorem wpAnyM_step {i : Nat} {o : Oper} {f : Nat} {listed : Array Bool} {a : Act} {w : World} (hr : Region.ready md ops listed = [i]) (ho : ops[i]? = some o) (hne : i ≠ m)
    (h : wpList P ops (stepQ fun a' w' => S w' ∧ wpAnyM P md ops Q S m f (listed.setIfInBounds i true) a' w') [o] a w) : wpAnyM P md ops Q S m (f + 1) listed a w := by
  refine ⟨fun h0 => (by rw [hr] at h0; cases h0), fun j hj => ?_⟩
  rw [hr, List.mem_singleton] at hj
  subst hj
  exact wpOp_of_list ho (fun a' w' h1 => by rw [if_neg hne]; exact h1) h
/-- Number m and one behind it. -/
theorem wpAnyM_last {t : Nat} {o o' : Oper} {f : Nat} {listed : Array Bool} {a : Act} {w : World} (hr : Region.ready md ops listed = [m]) (ho : ops[m]? = some o) (hr2 : Region.ready md ops (listed.setIfInBounds m true) = [t]) (ho' : ops[t]? = some o') (hr3 : Region.ready md ops ((listed.setIfInBounds m true).setIfInBounds t true) = [])
    (h : wpList P ops (stepQ fun a' w' => wpList P ops Q [o'] a' w') [o] a w) : wpAnyM P md ops Q S m (f + 2) listed a w := by
  refine ⟨fun h0 => (by rw [hr] at h0; cases h0), fun j hj => ?_⟩
  rw [hr, List.mem_singleton] at hj
  subst hj
  refine wpOp_of_list ho (fun a' w' h1 => ?_) h
  rw [if_pos rfl]
  refine ⟨fun h0 => (by rw [hr2] at h0; cases h0), fun j hj => ?_⟩
  rw [hr2, List.mem_singleton] at hj
  subst hj
  refine wpOp_of_last ho' (fun a'' w'' h2 => ?_) h1
  cases f with
  | zero => exact ⟨hr3, h2⟩
  | succ f => exact ⟨fun _ => h2, by rw [hr3]; simp⟩
/-- Number m and two behind it. -/
theorem wpAnyM_last3 {t u : Nat} {o o' o'' : Oper} {f : Nat} {listed : Array Bool} {a : Act} {w : World} (hr : Region.ready md ops listed = [m]) (ho : ops[m]? = some o) (hr2 : Region.ready md ops (listed.setIfInBounds m true) = [t]) (ho' : ops[t]? = some o')
    (hr3 : Region.ready md ops ((listed.setIfInBounds m true).setIfInBounds t true) = [u]) (ho'' : ops[u]? = some o'') (hr4 : Region.ready md ops (((listed.setIfInBounds m true).setIfInBounds t true).setIfInBounds u true) = [])
    (h : wpList P ops (stepQ fun a' w' => wpList P ops (stepQ fun a'' w'' => wpList P ops Q [o''] a'' w'') [o'] a' w') [o] a w) : wpAnyM P md ops Q S m (f + 3) listed a w := by
  refine ⟨fun h0 => (by rw [hr] at h0; cases h0), fun j hj => ?_⟩
  rw [hr, List.mem_singleton] at hj
  subst hj
  refine wpOp_of_list ho (fun a1 w1 h1 => ?_) h
  rw [if_pos rfl]
  refine ⟨fun h0 => (by rw [hr2] at h0; cases h0), fun j hj => ?_⟩
  rw [hr2, List.mem_singleton] at hj
  subst hj
  refine wpOp_of_list ho' (fun a2 w2 h2 => ?_) h1
  refine ⟨fun h0 => (by rw [hr3] at h0; cases h0), fun j hj => ?_⟩
  rw [hr3, List.mem_singleton] at hj
  subst hj
  refine wpOp_of_last ho'' (fun a3 w3 h3 => ?_) h2
  cases f with
  | zero => exact ⟨hr4, h3⟩
  | succ f => exact ⟨fun _ => h3, by rw [hr4]; simp⟩
/-- The beginning. -/
theorem wp_region_mid {id : Nat} {a : Act} {w : World} (S : World → Prop) (m : Nat) (hm : P.follows .mixedOrders = true)
    (h : wpAnyM P .any ops Q S m ops.size (Array.replicate ops.size false) a w.drew) : (Code.region id ops true).wp P Q a w :=
  wp_region_any hm (wpAny_of_mid _ _ _ _ h)
/-- What an operation without a guard answers in every world of S. -/
theorem yieldsIf_value {o : Oper} {v : Value} {a : Act} (hg : o.guard = none) (h : ∀ w, S w → (execOp a.eval o).run P w = .ok (.value v) w) : YieldsIf P ops S o v a := .inl ⟨by simp [Region.wanted, hg], h⟩
theorem stepQ_ok {K : Act → World → Prop} {a : Act} {w : World} (h : K a w) : stepQ K .normal a w := h
theorem stepQ_end {K : Act → World → Prop} {ops : Array Oper} {a : Act} {w : World} (h : K a w) : wpList P ops (stepQ K) [] a w := h
end

end Go.Proofs.YtkcgbdoplhgbmaaDoor

namespace Go.Proofs.YtkcgbdoplhgbmaaDoor

def usedB (h : Hd) : Bool := decide (1 ≤ h.kind) && decide (h.kind ≤ 8) && wordsB h.set (usedH h).set && decide (h.num = (usedH h).num) && decide (h.min = (usedH h).min) && decide (h.max = (usedH h).max) && (h.bare == (usedH h).bare)
def swB (h : Hd) (len : Nat) : Bool :=
  if h.kind = 5 ∨ h.kind = 6 then decide (2 ≤ len)
  else if h.kind = 7 then decide (len = 1) && decide (1 ≤ h.num) && decide (h.num ≤ 999)
  else if h.kind = 8 then decide (len = 1) && decide (0 ≤ h.min) && decide (h.min ≤ 255) && decide (-1 ≤ h.max) && decide (h.max ≤ 255) && !(decide (0 ≤ h.max) && decide (h.max < h.min)) && !(h.bare && decide (h.min ≠ 0))
  else decide (len = 0)
theorem words_zero (p : Nat → Bool) : wordsB p noS = zeroS p := by
  unfold wordsB zeroS
  have : ∀ i, wd noS i = 0 := fun i => wd_none i
  simp [this]
theorem used_formed (h : Hd) (len : Nat) : (usedB h && swB h len) = formedB h len := by
  obtain ⟨kind, set, num, mn, mx, bare⟩ := h
  by_cases hr : 1 ≤ kind ∧ kind ≤ 8
  · obtain ⟨h1, h8⟩ := hr
    rcases (show kind = 1 ∨ kind = 2 ∨ kind = 3 ∨ kind = 4 ∨ kind = 5 ∨ kind = 6 ∨ kind = 7 ∨ kind = 8 from by omega) with rfl | rfl | rfl | rfl | rfl | rfl | rfl | rfl
    case inr.inr.inr.inr.inr.inr.inr =>
      have e : formedB ⟨8, set, num, mn, mx, bare⟩ len = (zeroS set && decide (num = 0) && decide (len = 1) && decide (0 ≤ mn) && decide (mn ≤ 255) && !(bare && decide (0 < mn)) && (decide (mx = -1) || decide (mn ≤ mx) && decide (mx ≤ 255))) := rfl
      have e2 : usedB ⟨8, set, num, mn, mx, bare⟩ = (wordsB set noS && decide (num = 0)) := by simp [usedB, usedH]
      have e3 : swB ⟨8, set, num, mn, mx, bare⟩ len = (decide (len = 1) && decide (0 ≤ mn) && decide (mn ≤ 255) && decide (-1 ≤ mx) && decide (mx ≤ 255) && !(decide (0 ≤ mx) && decide (mx < mn)) && !(bare && decide (mn ≠ 0))) := rfl
      rw [e, e2, e3, words_zero, Bool.eq_iff_iff]
      cases zeroS set <;> cases bare <;> simp only [Bool.and_eq_true, Bool.or_eq_true, Bool.not_eq_true', Bool.and_eq_false_iff, decide_eq_true_eq, decide_eq_false_iff_not, Bool.false_and, Bool.true_and, Bool.not_false, Bool.and_true, Bool.false_eq_true] <;> omega
    all_goals
      simp [usedB, usedH, swB, formedB, plainB, words_zero, wordsB_refl]
      try (rw [Bool.eq_iff_iff]; cases zeroS set <;> cases bare <;> simp <;> omega)
  · have hu : usedB ⟨kind, set, num, mn, mx, bare⟩ = false := by
      rw [usedB]
      by_cases h1 : 1 ≤ kind
      · have h8 : ¬ kind ≤ 8 := by omega
        simp [h8]
      · simp [h1]
    rw [hu, Bool.false_and]
    unfold formedB
    simp only
    rw [if_neg (by omega), if_neg (by omega), if_neg (by omega), if_neg (by omega), if_neg (by omega)]

end Go.Proofs.YtkcgbdoplhgbmaaDoor

namespace Go.Proofs.YtkcgbdoplhgbmaaDoor
open Go Go.RowKit

set_option maxRecDepth 100000 in
set_option maxHeartbeats 8000000 in
theorem form04_any : ∀ (n : Nd) (sv : Value) (w : World), NdOk w n sv → smallN n →
    Calls Tryd.prog 84 #[nodeV n.h sv] w fun r w' => r = .returned (.bool (formB n)) ∧ Ext w w' := by
  refine Nd.ind fun hd subs ih sv w hn hsm => ?_
  obtain ⟨A, c, rfl⟩ := hn.shape
  obtain ⟨hlen, hsm⟩ := hsm
  have IH := Lib.hid (fun n hm sv w hn => ih n hm sv w hn (smallL_mem hsm n hm))
  have HN := Lib.hid hn
  have HR := Lib.hid (by rw [formB, ← used_formed] : formB (.mk hd subs) = ((usedB hd && swB hd subs.length) && formL subs))
  have HU := Lib.hid (fun W => used_any hd (.slice A subs.length c) (isSl_mk _ _ _) W)
  clear ih hsm hn
  generalize formB (.mk hd subs) = res at *
  simp only [Nd.h, Nd.subs] at *
  go_enter Tryd.func84, Tryd.ntmps84
  go_upto_region 2 with (first
    | (refine wpl_boxNd rfl _ rfl hd _ rfl ?_; intro b w1 hb hx1 eb sb)
    | (refine wpl_loadNd rfl _ rfl b 0 hd _ rfl hb.nd ?_)
    | (go_at_call 109; refine (HU.out _).mono ?_; rintro e w2 ⟨rfl, hx2⟩)
    | (refine wpl_allocNd rfl rfl ?_; intro s w3 hs hx3 es ss)
    | (refine wpl_storeNd rfl _ _ rfl rfl s (usedH hd) _ _ _ rfl rfl (isSl_mk _ _ _) hs ?_; intro w4 hs4 hk4))
  have hx4 := hx2.trans (hx3.keep1 hk4 es)
  have hxw := hx1.trans hx4
  have hb4 := hb.ext hx4
  have c5 : w4.cell? ⟨b, 5, none⟩ = some (.slice A subs.length c) := hb4.cell 5
  clear HU hb hx1 hx2 hx3 hs hk4 es ss eb sb hx4
  simp only [Act.put, List.setIfInBounds_toArray, List.set_cons_succ, List.set_cons_zero]
  go_cut [51] (fun v wx => v = .bool (!usedB hd) ∧ w4 = wx)
  case first =>
    have c0 : w4.cell? ⟨b, 0, none⟩ = some (.int .i64 hd.kind) := hb4.cell 0
    have c1 : w4.cell? ⟨b, 1, none⟩ = some (.int .u64 (wd hd.set 0 : Int)) := hb4.cell 1
    have c2 : w4.cell? ⟨b, 2, none⟩ = some (.int .u64 (wd hd.set 1 : Int)) := hb4.cell 2
    have c3 : w4.cell? ⟨b, 3, none⟩ = some (.int .u64 (wd hd.set 2 : Int)) := hb4.cell 3
    have c4 : w4.cell? ⟨b, 4, none⟩ = some (.int .u64 (wd hd.set 3 : Int)) := hb4.cell 4
    have c6 : w4.cell? ⟨b, 6, none⟩ = some (.int .i64 hd.num) := hb4.cell 6
    have c7 : w4.cell? ⟨b, 7, none⟩ = some (.int .i64 hd.min) := hb4.cell 7
    have c8 : w4.cell? ⟨b, 8, none⟩ = some (.int .i64 hd.max) := hb4.cell 8
    have c9 : w4.cell? ⟨b, 9, none⟩ = some (.bool hd.bare) := hb4.cell 9
    have d1 : w4.cell? ⟨s, 1, none⟩ = some (.int .u64 (wd (usedH hd).set 0 : Int)) := hs4.cell 1
    have d2 : w4.cell? ⟨s, 2, none⟩ = some (.int .u64 (wd (usedH hd).set 1 : Int)) := hs4.cell 2
    have d3 : w4.cell? ⟨s, 3, none⟩ = some (.int .u64 (wd (usedH hd).set 2 : Int)) := hs4.cell 3
    have d4 : w4.cell? ⟨s, 4, none⟩ = some (.int .u64 (wd (usedH hd).set 3 : Int)) := hs4.cell 4
    have d6 : w4.cell? ⟨s, 6, none⟩ = some (.int .i64 (usedH hd).num) := hs4.cell 6
    have d7 : w4.cell? ⟨s, 7, none⟩ = some (.int .i64 (usedH hd).min) := hs4.cell 7
    have d8 : w4.cell? ⟨s, 8, none⟩ = some (.int .i64 (usedH hd).max) := hs4.cell 8
    have d9 : w4.cell? ⟨s, 9, none⟩ = some (.bool (usedH hd).bare) := hs4.cell 9
    have hne := neq_set hd.set (usedH hd).set
    have hS := Lib.hid (show usedB hd = (decide (1 ≤ hd.kind) && decide (hd.kind ≤ 8) && wordsB hd.set (usedH hd).set && decide (hd.num = (usedH hd).num) && decide (hd.min = (usedH hd).min) && decide (hd.max = (usedH hd).max) && (hd.bare == (usedH hd).bare)) from rfl)
    clear HR IH HN hb4 hs4 hxw
    generalize usedB hd = sh at *
    generalize (usedH hd).num = n2 at *
    generalize (usedH hd).min = m2 at *
    generalize (usedH hd).max = x2 at *
    generalize (usedH hd).bare = b2 at *
    generalize hd.kind = k1 at *
    generalize hd.num = n1 at *
    generalize hd.min = m1 at *
    generalize hd.max = x1 at *
    generalize hd.bare = b1 at *
    generalize wordsB hd.set (usedH hd).set = ws at *
    by_cases t0 : k1 < 1
    case' neg =>
      by_cases t1 : 8 < k1
      case' neg =>
        cases ws
        case' true =>
          by_cases t3 : n1 = n2
          case' neg => have e1 : (n1 != n2) = true := by simpa using t3
          case' pos =>
            subst t3
            by_cases t4 : m1 = m2
            case' neg => have e1 : (m1 != m2) = true := by simpa using t4
            case' pos =>
              subst t4
              by_cases t5 : x1 = x2
              case' neg => have e1 : (x1 != x2) = true := by simpa using t5
              case' pos =>
                subst t5
                cases b1 <;> cases b2
    all_goals
      have hq := Lib.hid (show (decide (1 ≤ k1) = !decide (k1 < 1)) ∧ (decide (k1 ≤ 8) = !decide (8 < k1)) from ⟨by rw [Bool.eq_iff_iff]; simp, by rw [Bool.eq_iff_iff]; simp⟩)
      go_wp2
      all_goals
        go_meet
        case rel => exact ⟨by rw [hS.out, hq.out.1, hq.out.2]; first | (simp; done) | (simp [*]; done), rfl⟩
  obtain ⟨rfl, rfl⟩ := hcut
  clear hs4
  cases hS : usedB hd
  · have HR2 := Lib.hid (show res = false by rw [HR.out, hS, Bool.false_and, Bool.false_and])
    clear HR IH HN hS
    go_wp2
    go_ret
    exact ⟨by rw [HR2.out]; rfl, hxw⟩
  rw [hS, Bool.true_and] at HR
  have hkk : 1 ≤ hd.kind ∧ hd.kind ≤ 8 := by
    simp only [usedB, Bool.and_eq_true, decide_eq_true_eq] at hS
    exact ⟨hS.1.1.1.1.1.1, hS.1.1.1.1.1.2⟩
  clear hS
  have hx44 : Ext w4 w4 := Ext.refl w4
  have c0 : w4.cell? ⟨b, 0, none⟩ = some (.int .i64 hd.kind) := hb4.cell 0
  have c6 : w4.cell? ⟨b, 6, none⟩ = some (.int .i64 hd.num) := hb4.cell 6
  have c7 : w4.cell? ⟨b, 7, none⟩ = some (.int .i64 hd.min) := hb4.cell 7
  have c8 : w4.cell? ⟨b, 8, none⟩ = some (.int .i64 hd.max) := hb4.cell 8
  have c9 : w4.cell? ⟨b, 9, none⟩ = some (.bool hd.bare) := hb4.cell 9
  obtain ⟨kind, set, num, mn, mx, bare⟩ := hd
  simp only at *
  have hlz : ∀ m : Nat, ((subs.length : Int) != (m : Int)) = !decide (subs.length = m) := fun m => by
    by_cases h : subs.length = m
    · simp [h]
    · have h2 : ¬ ((subs.length : Int) = (m : Int)) := by omega
      simp [h, h2]
  have l1 : ((subs.length : Int) != 1) = !decide (subs.length = 1) := hlz 1
  have l0 : ((subs.length : Int) != 0) = !decide (subs.length = 0) := hlz 0
  clear hlz hb4
  by_cases h56 : kind = 5 ∨ kind = 6
  · rcases h56 with rfl | rfl
    all_goals
      by_cases h1 : (subs.length : Int) < 2
      · have HR2 := Lib.hid (show res = false by
          rw [HR.out, Bool.and_eq_false_iff]
          refine .inl (Bool.eq_false_iff.2 fun h => ?_)
          simp [swB] at h
          omega)
        clear HR IH HN hx44
        go_wp2
        go_ret
        exact ⟨by rw [HR2.out]; rfl, hxw⟩
      · have HR2 := Lib.hid (show res = formL subs by
          rw [HR.out, show swB _ subs.length = true from by simp [swB]; omega, Bool.true_and])
        clear HR
        go_wp2
        go_loopw [5] (fun i wr => ∃ k : Nat, k ≤ subs.length ∧ i = .int .i64 k ∧ formL (subs.take k) = true ∧ Ext w4 wr) (fun i _ => subs.length - (intOf i).toNat)
        case atStart => exact ⟨0, Nat.zero_le _, rfl, by rw [List.take_zero, formL], hx44⟩
        case round =>
          clear hx44 c0 c6 c7 c8 c9 l0 l1
          obtain ⟨k, hk, rfl, hfl, hx⟩ := hrel
          have HL := Lib.hid hfl
          clear hfl
          replace c5 := hx.cell c5
          by_cases hlt : k < subs.length
          · obtain ⟨g0, o0, sv, rfl, hat, hok⟩ := HN.out.get k hlt
            have hxw2 := hxw.trans hx
            replace hat := hat.ext hxw2
            have HST := Lib.hid (show formL (subs.take (k + 1)) = formB subs[k] by rw [take_snoc subs k hlt, formL_app, HL.out, formL_one, Bool.true_and])
            have HEN := Lib.hid (show formB subs[k] = false → formL subs = false from fun h => by rw [← List.take_append_drop (k + 1) subs, formL_app, HST.out, h, Bool.false_and])
            have IHk := Lib.hid (IH.out subs[k] (List.getElem_mem hlt) sv wr (NdOk.ext hxw2 _ _ hok))
            clear IH HN HL hok
            generalize formB subs[k] = pk at *
            generalize subs[k] = nk at *
            have t1 : (k : Int) < (subs.length : Int) := by omega
            cases pk
            all_goals
              go_wp2_with (first
                | (refine wpl_loadNd rfl _ rfl g0 (o0 + k * 10) nk.h sv rfl hat ?_)
                | (go_at_call 84; refine IHk.out.mono ?_; rintro e w6 ⟨rfl, hx6⟩))
            · go_ret
              exact ⟨by rw [HR2.out, HEN.out trivial]; rfl, hxw2.trans hx6⟩
            · go_roundw
              case rel => exact ⟨k + 1, by omega, by go_num, HST.out, hx.trans hx6⟩
              case measure => simp [intOf]; omega
          · have hkl : subs.take k = subs := List.take_of_length_le (by omega)
            rw [hkl] at HL
            have t1 : ¬ (k : Int) < (subs.length : Int) := by omega
            clear IH HN hkl
            go_wp2
            go_ret
            exact ⟨by rw [HR2.out, HL.out]; rfl, hxw.trans hx⟩
  by_cases h7 : kind = 7
  · subst h7
    by_cases hl : subs.length = 1
    · by_cases h2 : num < 1
      · have HR2 := Lib.hid (show res = false by
          rw [HR.out, Bool.and_eq_false_iff]
          refine .inl (Bool.eq_false_iff.2 fun h => ?_)
          simp [swB] at h
          omega)
        rw [show decide (subs.length = 1) = true from by simpa using hl, Bool.not_true] at l1
        have T := Lib.hid hl
        clear hl
        clear HR IH HN hx44
        go_wp2
        go_ret
        exact ⟨by rw [HR2.out]; rfl, hxw⟩
      · by_cases h3 : 999 < num
        · have HR2 := Lib.hid (show res = false by
            rw [HR.out, Bool.and_eq_false_iff]
            refine .inl (Bool.eq_false_iff.2 fun h => ?_)
            simp [swB] at h
            omega)
          rw [show decide (subs.length = 1) = true from by simpa using hl, Bool.not_true] at l1
          have T := Lib.hid hl
          clear hl
          clear HR IH HN hx44
          go_wp2
          go_ret
          exact ⟨by rw [HR2.out]; rfl, hxw⟩
        · have HR2 := Lib.hid (show res = formL subs by
            rw [HR.out, show swB _ subs.length = true from by simp [swB]; omega, Bool.true_and])
          rw [show decide (subs.length = 1) = true from by simpa using hl, Bool.not_true] at l1
          have T := Lib.hid hl
          clear hl
          clear HR
          go_wp2
          go_loopw [5] (fun i wr => ∃ k : Nat, k ≤ subs.length ∧ i = .int .i64 k ∧ formL (subs.take k) = true ∧ Ext w4 wr) (fun i _ => subs.length - (intOf i).toNat)
          case atStart => exact ⟨0, Nat.zero_le _, rfl, by rw [List.take_zero, formL], hx44⟩
          case round =>
            clear hx44 c0 c6 c7 c8 c9 l0 l1
            obtain ⟨k, hk, rfl, hfl, hx⟩ := hrel
            have HL := Lib.hid hfl
            clear hfl
            replace c5 := hx.cell c5
            by_cases hlt : k < subs.length
            · obtain ⟨g0, o0, sv, rfl, hat, hok⟩ := HN.out.get k hlt
              have hxw2 := hxw.trans hx
              replace hat := hat.ext hxw2
              have HST := Lib.hid (show formL (subs.take (k + 1)) = formB subs[k] by rw [take_snoc subs k hlt, formL_app, HL.out, formL_one, Bool.true_and])
              have HEN := Lib.hid (show formB subs[k] = false → formL subs = false from fun h => by rw [← List.take_append_drop (k + 1) subs, formL_app, HST.out, h, Bool.false_and])
              have IHk := Lib.hid (IH.out subs[k] (List.getElem_mem hlt) sv wr (NdOk.ext hxw2 _ _ hok))
              clear IH HN HL hok
              generalize formB subs[k] = pk at *
              generalize subs[k] = nk at *
              have t1 : (k : Int) < (subs.length : Int) := by omega
              cases pk
              all_goals
                go_wp2_with (first
                  | (refine wpl_loadNd rfl _ rfl g0 (o0 + k * 10) nk.h sv rfl hat ?_)
                  | (go_at_call 84; refine IHk.out.mono ?_; rintro e w6 ⟨rfl, hx6⟩))
              · go_ret
                exact ⟨by rw [HR2.out, HEN.out trivial]; rfl, hxw2.trans hx6⟩
              · go_roundw
                case rel => exact ⟨k + 1, by omega, by go_num, HST.out, hx.trans hx6⟩
                case measure => simp [intOf]; omega
            · have hkl : subs.take k = subs := List.take_of_length_le (by omega)
              rw [hkl] at HL
              have t1 : ¬ (k : Int) < (subs.length : Int) := by omega
              clear IH HN hkl
              go_wp2
              go_ret
              exact ⟨by rw [HR2.out, HL.out]; rfl, hxw.trans hx⟩
    · have HR2 := Lib.hid (show res = false by
        rw [HR.out, Bool.and_eq_false_iff]
        refine .inl (Bool.eq_false_iff.2 fun h => ?_)
        simp [swB] at h
        omega)
      rw [show decide (subs.length = 1) = false from by simpa using hl, Bool.not_false] at l1
      have T := Lib.hid hl
      clear hl
      clear HR IH HN hx44
      go_wp2
      go_ret
      exact ⟨by rw [HR2.out]; rfl, hxw⟩
  by_cases h8 : kind = 8
  · subst h8
    by_cases hl : subs.length = 1
    · by_cases h2 : mn < 0
      · have HR2 := Lib.hid (show res = false by
          rw [HR.out, Bool.and_eq_false_iff]
          refine .inl (Bool.eq_false_iff.2 fun h => ?_)
          simp [swB] at h
          omega)
        rw [show decide (subs.length = 1) = true from by simpa using hl, Bool.not_true] at l1
        have T := Lib.hid hl
        clear hl
        clear HR IH HN hx44
        go_wp2
        go_ret
        exact ⟨by rw [HR2.out]; rfl, hxw⟩
      · by_cases h3 : 255 < mn
        · have HR2 := Lib.hid (show res = false by
            rw [HR.out, Bool.and_eq_false_iff]
            refine .inl (Bool.eq_false_iff.2 fun h => ?_)
            simp [swB] at h
            omega)
          rw [show decide (subs.length = 1) = true from by simpa using hl, Bool.not_true] at l1
          have T := Lib.hid hl
          clear hl
          clear HR IH HN hx44
          go_wp2
          go_ret
          exact ⟨by rw [HR2.out]; rfl, hxw⟩
        · by_cases h4 : mx < -1
          · have HR2 := Lib.hid (show res = false by
              rw [HR.out, Bool.and_eq_false_iff]
              refine .inl (Bool.eq_false_iff.2 fun h => ?_)
              simp [swB] at h
              omega)
            rw [show decide (subs.length = 1) = true from by simpa using hl, Bool.not_true] at l1
            have T := Lib.hid hl
            clear hl
            clear HR IH HN hx44
            go_wp2
            go_ret
            exact ⟨by rw [HR2.out]; rfl, hxw⟩
          · by_cases h5 : 255 < mx
            · have HR2 := Lib.hid (show res = false by
                rw [HR.out, Bool.and_eq_false_iff]
                refine .inl (Bool.eq_false_iff.2 fun h => ?_)
                simp [swB] at h
                omega)
              rw [show decide (subs.length = 1) = true from by simpa using hl, Bool.not_true] at l1
              have T := Lib.hid hl
              clear hl
              clear HR IH HN hx44
              go_wp2
              go_ret
              exact ⟨by rw [HR2.out]; rfl, hxw⟩
            · by_cases hp : 0 ≤ mx
              · by_cases h7 : mx < mn
                · have HR2 := Lib.hid (show res = false by
                    rw [HR.out, Bool.and_eq_false_iff]
                    refine .inl (Bool.eq_false_iff.2 fun h => ?_)
                    simp [swB] at h
                    omega)
                  clear HR IH HN hx44
                  go_wp2
                  go_ret
                  exact ⟨by rw [HR2.out]; rfl, hxw⟩
                · cases bare
                  · have HR2 := Lib.hid (show res = formL subs by
                      rw [HR.out, show swB _ subs.length = true from by simp [swB]; omega, Bool.true_and])
                    rw [show decide (subs.length = 1) = true from by simpa using hl, Bool.not_true] at l1
                    have T := Lib.hid hl
                    clear hl
                    clear HR
                    go_wp2
                    go_loopw [5] (fun i wr => ∃ k : Nat, k ≤ subs.length ∧ i = .int .i64 k ∧ formL (subs.take k) = true ∧ Ext w4 wr) (fun i _ => subs.length - (intOf i).toNat)
                    case atStart => exact ⟨0, Nat.zero_le _, rfl, by rw [List.take_zero, formL], hx44⟩
                    case round =>
                      clear hx44 c0 c6 c7 c8 c9 l0 l1
                      obtain ⟨k, hk, rfl, hfl, hx⟩ := hrel
                      have HL := Lib.hid hfl
                      clear hfl
                      replace c5 := hx.cell c5
                      by_cases hlt : k < subs.length
                      · obtain ⟨g0, o0, sv, rfl, hat, hok⟩ := HN.out.get k hlt
                        have hxw2 := hxw.trans hx
                        replace hat := hat.ext hxw2
                        have HST := Lib.hid (show formL (subs.take (k + 1)) = formB subs[k] by rw [take_snoc subs k hlt, formL_app, HL.out, formL_one, Bool.true_and])
                        have HEN := Lib.hid (show formB subs[k] = false → formL subs = false from fun h => by rw [← List.take_append_drop (k + 1) subs, formL_app, HST.out, h, Bool.false_and])
                        have IHk := Lib.hid (IH.out subs[k] (List.getElem_mem hlt) sv wr (NdOk.ext hxw2 _ _ hok))
                        clear IH HN HL hok
                        generalize formB subs[k] = pk at *
                        generalize subs[k] = nk at *
                        have t1 : (k : Int) < (subs.length : Int) := by omega
                        cases pk
                        all_goals
                          go_wp2_with (first
                            | (refine wpl_loadNd rfl _ rfl g0 (o0 + k * 10) nk.h sv rfl hat ?_)
                            | (go_at_call 84; refine IHk.out.mono ?_; rintro e w6 ⟨rfl, hx6⟩))
                        · go_ret
                          exact ⟨by rw [HR2.out, HEN.out trivial]; rfl, hxw2.trans hx6⟩
                        · go_roundw
                          case rel => exact ⟨k + 1, by omega, by go_num, HST.out, hx.trans hx6⟩
                          case measure => simp [intOf]; omega
                      · have hkl : subs.take k = subs := List.take_of_length_le (by omega)
                        rw [hkl] at HL
                        have t1 : ¬ (k : Int) < (subs.length : Int) := by omega
                        clear IH HN hkl
                        go_wp2
                        go_ret
                        exact ⟨by rw [HR2.out, HL.out]; rfl, hxw.trans hx⟩
                  · by_cases hz : mn = 0
                    · have HR2 := Lib.hid (show res = formL subs by
                        rw [HR.out, show swB _ subs.length = true from by simp [swB]; omega, Bool.true_and])
                      rw [show decide (subs.length = 1) = true from by simpa using hl, Bool.not_true] at l1
                      have T := Lib.hid hl
                      clear hl
                      subst hz
                      clear HR
                      go_wp2
                      go_loopw [5] (fun i wr => ∃ k : Nat, k ≤ subs.length ∧ i = .int .i64 k ∧ formL (subs.take k) = true ∧ Ext w4 wr) (fun i _ => subs.length - (intOf i).toNat)
                      case atStart => exact ⟨0, Nat.zero_le _, rfl, by rw [List.take_zero, formL], hx44⟩
                      case round =>
                        clear hx44 c0 c6 c7 c8 c9 l0 l1
                        obtain ⟨k, hk, rfl, hfl, hx⟩ := hrel
                        have HL := Lib.hid hfl
                        clear hfl
                        replace c5 := hx.cell c5
                        by_cases hlt : k < subs.length
                        · obtain ⟨g0, o0, sv, rfl, hat, hok⟩ := HN.out.get k hlt
                          have hxw2 := hxw.trans hx
                          replace hat := hat.ext hxw2
                          have HST := Lib.hid (show formL (subs.take (k + 1)) = formB subs[k] by rw [take_snoc subs k hlt, formL_app, HL.out, formL_one, Bool.true_and])
                          have HEN := Lib.hid (show formB subs[k] = false → formL subs = false from fun h => by rw [← List.take_append_drop (k + 1) subs, formL_app, HST.out, h, Bool.false_and])
                          have IHk := Lib.hid (IH.out subs[k] (List.getElem_mem hlt) sv wr (NdOk.ext hxw2 _ _ hok))
                          clear IH HN HL hok
                          generalize formB subs[k] = pk at *
                          generalize subs[k] = nk at *
                          have t1 : (k : Int) < (subs.length : Int) := by omega
                          cases pk
                          all_goals
                            go_wp2_with (first
                              | (refine wpl_loadNd rfl _ rfl g0 (o0 + k * 10) nk.h sv rfl hat ?_)
                              | (go_at_call 84; refine IHk.out.mono ?_; rintro e w6 ⟨rfl, hx6⟩))
                          · go_ret
                            exact ⟨by rw [HR2.out, HEN.out trivial]; rfl, hxw2.trans hx6⟩
                          · go_roundw
                            case rel => exact ⟨k + 1, by omega, by go_num, HST.out, hx.trans hx6⟩
                            case measure => simp [intOf]; omega
                        · have hkl : subs.take k = subs := List.take_of_length_le (by omega)
                          rw [hkl] at HL
                          have t1 : ¬ (k : Int) < (subs.length : Int) := by omega
                          clear IH HN hkl
                          go_wp2
                          go_ret
                          exact ⟨by rw [HR2.out, HL.out]; rfl, hxw.trans hx⟩
                    · have HR2 := Lib.hid (show res = false by
                        rw [HR.out, Bool.and_eq_false_iff]
                        refine .inl (Bool.eq_false_iff.2 fun h => ?_)
                        simp [swB] at h
                        omega)
                      rw [show decide (subs.length = 1) = true from by simpa using hl, Bool.not_true] at l1
                      have T := Lib.hid hl
                      clear hl
                      have n1 : (mn != 0) = true := by simpa using hz
                      clear HR IH HN hx44
                      go_wp2
                      go_ret
                      exact ⟨by rw [HR2.out]; rfl, hxw⟩
              · cases bare
                · have HR2 := Lib.hid (show res = formL subs by
                    rw [HR.out, show swB _ subs.length = true from by simp [swB]; omega, Bool.true_and])
                  rw [show decide (subs.length = 1) = true from by simpa using hl, Bool.not_true] at l1
                  have T := Lib.hid hl
                  clear hl
                  clear HR
                  go_wp2
                  go_loopw [5] (fun i wr => ∃ k : Nat, k ≤ subs.length ∧ i = .int .i64 k ∧ formL (subs.take k) = true ∧ Ext w4 wr) (fun i _ => subs.length - (intOf i).toNat)
                  case atStart => exact ⟨0, Nat.zero_le _, rfl, by rw [List.take_zero, formL], hx44⟩
                  case round =>
                    clear hx44 c0 c6 c7 c8 c9 l0 l1
                    obtain ⟨k, hk, rfl, hfl, hx⟩ := hrel
                    have HL := Lib.hid hfl
                    clear hfl
                    replace c5 := hx.cell c5
                    by_cases hlt : k < subs.length
                    · obtain ⟨g0, o0, sv, rfl, hat, hok⟩ := HN.out.get k hlt
                      have hxw2 := hxw.trans hx
                      replace hat := hat.ext hxw2
                      have HST := Lib.hid (show formL (subs.take (k + 1)) = formB subs[k] by rw [take_snoc subs k hlt, formL_app, HL.out, formL_one, Bool.true_and])
                      have HEN := Lib.hid (show formB subs[k] = false → formL subs = false from fun h => by rw [← List.take_append_drop (k + 1) subs, formL_app, HST.out, h, Bool.false_and])
                      have IHk := Lib.hid (IH.out subs[k] (List.getElem_mem hlt) sv wr (NdOk.ext hxw2 _ _ hok))
                      clear IH HN HL hok
                      generalize formB subs[k] = pk at *
                      generalize subs[k] = nk at *
                      have t1 : (k : Int) < (subs.length : Int) := by omega
                      cases pk
                      all_goals
                        go_wp2_with (first
                          | (refine wpl_loadNd rfl _ rfl g0 (o0 + k * 10) nk.h sv rfl hat ?_)
                          | (go_at_call 84; refine IHk.out.mono ?_; rintro e w6 ⟨rfl, hx6⟩))
                      · go_ret
                        exact ⟨by rw [HR2.out, HEN.out trivial]; rfl, hxw2.trans hx6⟩
                      · go_roundw
                        case rel => exact ⟨k + 1, by omega, by go_num, HST.out, hx.trans hx6⟩
                        case measure => simp [intOf]; omega
                    · have hkl : subs.take k = subs := List.take_of_length_le (by omega)
                      rw [hkl] at HL
                      have t1 : ¬ (k : Int) < (subs.length : Int) := by omega
                      clear IH HN hkl
                      go_wp2
                      go_ret
                      exact ⟨by rw [HR2.out, HL.out]; rfl, hxw.trans hx⟩
                · by_cases hz : mn = 0
                  · have HR2 := Lib.hid (show res = formL subs by
                      rw [HR.out, show swB _ subs.length = true from by simp [swB]; omega, Bool.true_and])
                    rw [show decide (subs.length = 1) = true from by simpa using hl, Bool.not_true] at l1
                    have T := Lib.hid hl
                    clear hl
                    subst hz
                    clear HR
                    go_wp2
                    go_loopw [5] (fun i wr => ∃ k : Nat, k ≤ subs.length ∧ i = .int .i64 k ∧ formL (subs.take k) = true ∧ Ext w4 wr) (fun i _ => subs.length - (intOf i).toNat)
                    case atStart => exact ⟨0, Nat.zero_le _, rfl, by rw [List.take_zero, formL], hx44⟩
                    case round =>
                      clear hx44 c0 c6 c7 c8 c9 l0 l1
                      obtain ⟨k, hk, rfl, hfl, hx⟩ := hrel
                      have HL := Lib.hid hfl
                      clear hfl
                      replace c5 := hx.cell c5
                      by_cases hlt : k < subs.length
                      · obtain ⟨g0, o0, sv, rfl, hat, hok⟩ := HN.out.get k hlt
                        have hxw2 := hxw.trans hx
                        replace hat := hat.ext hxw2
                        have HST := Lib.hid (show formL (subs.take (k + 1)) = formB subs[k] by rw [take_snoc subs k hlt, formL_app, HL.out, formL_one, Bool.true_and])
                        have HEN := Lib.hid (show formB subs[k] = false → formL subs = false from fun h => by rw [← List.take_append_drop (k + 1) subs, formL_app, HST.out, h, Bool.false_and])
                        have IHk := Lib.hid (IH.out subs[k] (List.getElem_mem hlt) sv wr (NdOk.ext hxw2 _ _ hok))
                        clear IH HN HL hok
                        generalize formB subs[k] = pk at *
                        generalize subs[k] = nk at *
                        have t1 : (k : Int) < (subs.length : Int) := by omega
                        cases pk
                        all_goals
                          go_wp2_with (first
                            | (refine wpl_loadNd rfl _ rfl g0 (o0 + k * 10) nk.h sv rfl hat ?_)
                            | (go_at_call 84; refine IHk.out.mono ?_; rintro e w6 ⟨rfl, hx6⟩))
                        · go_ret
                          exact ⟨by rw [HR2.out, HEN.out trivial]; rfl, hxw2.trans hx6⟩
                        · go_roundw
                          case rel => exact ⟨k + 1, by omega, by go_num, HST.out, hx.trans hx6⟩
                          case measure => simp [intOf]; omega
                      · have hkl : subs.take k = subs := List.take_of_length_le (by omega)
                        rw [hkl] at HL
                        have t1 : ¬ (k : Int) < (subs.length : Int) := by omega
                        clear IH HN hkl
                        go_wp2
                        go_ret
                        exact ⟨by rw [HR2.out, HL.out]; rfl, hxw.trans hx⟩
                  · have HR2 := Lib.hid (show res = false by
                      rw [HR.out, Bool.and_eq_false_iff]
                      refine .inl (Bool.eq_false_iff.2 fun h => ?_)
                      simp [swB] at h
                      omega)
                    rw [show decide (subs.length = 1) = true from by simpa using hl, Bool.not_true] at l1
                    have T := Lib.hid hl
                    clear hl
                    have n1 : (mn != 0) = true := by simpa using hz
                    clear HR IH HN hx44
                    go_wp2
                    go_ret
                    exact ⟨by rw [HR2.out]; rfl, hxw⟩
    · have HR2 := Lib.hid (show res = false by
        rw [HR.out, Bool.and_eq_false_iff]
        refine .inl (Bool.eq_false_iff.2 fun h => ?_)
        simp [swB] at h
        omega)
      rw [show decide (subs.length = 1) = false from by simpa using hl, Bool.not_false] at l1
      have T := Lib.hid hl
      clear hl
      clear HR IH HN hx44
      go_wp2
      go_ret
      exact ⟨by rw [HR2.out]; rfl, hxw⟩
  rcases (show kind = 1 ∨ kind = 2 ∨ kind = 3 ∨ kind = 4 from by omega) with rfl | rfl | rfl | rfl
  all_goals
    clear h56 h7 h8 hkk
    by_cases hl : subs.length = 0
    · have HR2 := Lib.hid (show res = formL subs by
        rw [HR.out, show swB _ subs.length = true from by simp [swB, hl], Bool.true_and])
      rw [show decide (subs.length = 0) = true from by simpa using hl, Bool.not_true] at l0
      have T := Lib.hid hl
      clear hl
      clear HR
      go_wp2
      go_loopw [5] (fun i wr => ∃ k : Nat, k ≤ subs.length ∧ i = .int .i64 k ∧ formL (subs.take k) = true ∧ Ext w4 wr) (fun i _ => subs.length - (intOf i).toNat)
      case atStart => exact ⟨0, Nat.zero_le _, rfl, by rw [List.take_zero, formL], hx44⟩
      case round =>
        clear hx44 c0 c6 c7 c8 c9 l0 l1
        obtain ⟨k, hk, rfl, hfl, hx⟩ := hrel
        have HL := Lib.hid hfl
        clear hfl
        replace c5 := hx.cell c5
        by_cases hlt : k < subs.length
        · obtain ⟨g0, o0, sv, rfl, hat, hok⟩ := HN.out.get k hlt
          have hxw2 := hxw.trans hx
          replace hat := hat.ext hxw2
          have HST := Lib.hid (show formL (subs.take (k + 1)) = formB subs[k] by rw [take_snoc subs k hlt, formL_app, HL.out, formL_one, Bool.true_and])
          have HEN := Lib.hid (show formB subs[k] = false → formL subs = false from fun h => by rw [← List.take_append_drop (k + 1) subs, formL_app, HST.out, h, Bool.false_and])
          have IHk := Lib.hid (IH.out subs[k] (List.getElem_mem hlt) sv wr (NdOk.ext hxw2 _ _ hok))
          clear IH HN HL hok
          generalize formB subs[k] = pk at *
          generalize subs[k] = nk at *
          have t1 : (k : Int) < (subs.length : Int) := by omega
          cases pk
          all_goals
            go_wp2_with (first
              | (refine wpl_loadNd rfl _ rfl g0 (o0 + k * 10) nk.h sv rfl hat ?_)
              | (go_at_call 84; refine IHk.out.mono ?_; rintro e w6 ⟨rfl, hx6⟩))
          · go_ret
            exact ⟨by rw [HR2.out, HEN.out trivial]; rfl, hxw2.trans hx6⟩
          · go_roundw
            case rel => refine ⟨_, _, _, _, _, _, _, _, _, _, _, _, _, _, _, _, ?_, by congr 1⟩; exact ⟨k + 1, by omega, by go_num, HST.out, hx.trans hx6⟩
            case measure => simp [intOf]; omega
        · have hkl : subs.take k = subs := List.take_of_length_le (by omega)
          rw [hkl] at HL
          have t1 : ¬ (k : Int) < (subs.length : Int) := by omega
          clear IH HN hkl
          go_wp2
          go_ret
          exact ⟨by rw [HR2.out, HL.out]; rfl, hxw.trans hx⟩
    · have HR2 := Lib.hid (show res = false by
        rw [HR.out, Bool.and_eq_false_iff]
        refine .inl (Bool.eq_false_iff.2 fun h => ?_)
        simp [swB, hl] at h)
      rw [show decide (subs.length = 0) = false from by simpa using hl, Bool.not_false] at l0
      have T := Lib.hid hl
      clear hl
      clear HR IH HN hx44
      go_wp2
      go_ret
      exact ⟨by rw [HR2.out]; rfl, hxw⟩

end Go.Proofs.YtkcgbdoplhgbmaaDoor
