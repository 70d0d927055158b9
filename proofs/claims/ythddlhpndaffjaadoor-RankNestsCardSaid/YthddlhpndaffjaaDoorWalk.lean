/- rank.walk as a contract: the spans by a parse of a right tree are laid. Condition: tree and parse lie in memory, the parse is one of the tree. -/
import Derived.Test.YthddlhpndaffjaaDoorSpW
namespace Go.Proofs.YthddlhpndaffjaaDoor
open Go Go.RowKit

def setS (num : Int) (x : Int × Int) (l : List (Int × Int)) : List (Int × Int) := if num < l.length then l.set num.toNat x else l
mutual
def walkN : Ps → Nd → List (Int × Int) → List (Int × Int)
  | .mk d ps, .mk h subs, l => walkR ps (ndsOf h subs d ps.length) (if h.kind = 7 then setS h.num (d.a, d.b) (unsetL subs l) else l)
def walkR : List Ps → List Nd → List (Int × Int) → List (Int × Int)
  | [], _, l => l
  | _ :: _, [], l => l
  | p :: r, n :: nr, l => walkR r nr (walkN p n l)
end
theorem setS_len (num : Int) (x : Int × Int) (l : List (Int × Int)) : (setS num x l).length = l.length := by unfold setS; split <;> simp
theorem walkR_app : ∀ (a : List Ps) (a' : List Nd) (b : List Ps) (b' : List Nd) (l : List (Int × Int)), a.length = a'.length → walkR (a ++ b) (a' ++ b') l = walkR b b' (walkR a a' l)
  | [], [], _, _, _, _ => by simp [walkR]
  | p :: a, n :: a', b, b', l, h => by
    show walkR (p :: (a ++ b)) (n :: (a' ++ b')) l = _
    rw [walkR, walkR, walkR_app a a' b b' _ (by simpa using h)]
  | [], _ :: _, _, _, _, h => by cases h
  | _ :: _, [], _, _, _, h => by cases h
theorem walkR_step {ps : List Ps} {nds : List Nd} {k : Nat} (h : k < ps.length) (h' : k < nds.length) (l : List (Int × Int)) : walkR (ps.take (k + 1)) (nds.take (k + 1)) l = walkN ps[k] nds[k] (walkR (ps.take k) (nds.take k) l) := by
  rw [take_snoc ps k h, take_snoc nds k h', walkR_app _ _ _ _ _ (by simp; omega), walkR, walkR]
theorem walkR_done {ps : List Ps} {nds : List Nd} (h : ps.length = nds.length) (l : List (Int × Int)) : walkR (ps.take ps.length) (nds.take ps.length) l = walkR ps nds l := by
  rw [List.take_of_length_le (Nat.le_refl _), List.take_of_length_le (by omega)]
mutual
theorem walkN_len : ∀ (p : Ps) (n : Nd) (l : List (Int × Int)), (walkN p n l).length = l.length
  | .mk d ps, .mk h subs, l => by
    rw [walkN, walkR_len]
    split
    · rw [setS_len, unsetL_len]
    · rfl
theorem walkR_len : ∀ (ps : List Ps) (ns : List Nd) (l : List (Int × Int)), (walkR ps ns l).length = l.length
  | [], _, _ => by rw [walkR]
  | _ :: _, [], _ => by rw [walkR]
  | p :: r, n :: nr, l => by rw [walkR, walkR_len, walkN_len]
end
section
variable {sz : Int} {L : Hd → Int → Int → Bool}
theorem rowN_get : ∀ (ps : List Ps) (nds : List Nd) (a b : Int), rowN sz L ps nds a b = true → ∀ k (hk : k < ps.length), ∃ h' : k < nds.length, parseN sz L ps[k] nds[k] = true
  | [], _, _, _, _, k, hk => absurd hk (Nat.not_lt_zero _)
  | _ :: _, [], _, _, h, _, _ => by rw [rowN] at h; cases h
  | p :: r, n :: nr, a, b, h, k, hk => by
    rw [rowN, Bool.and_eq_true, Bool.and_eq_true] at h
    cases k with
    | zero => exact ⟨by simp, h.1.2⟩
    | succ k =>
      obtain ⟨h1, h2⟩ := rowN_get r nr _ b h.2 k (by simpa using hk)
      exact ⟨by simpa using h1, by simpa using h2⟩
theorem parse_inv {d : Pd} {ps : List Ps} {h : Hd} {subs : List Nd} (hp : parseN sz L (.mk d ps) (.mk h subs) = true) (hk : 5 ≤ h.kind) : okB h subs.length d ps = true ∧ rowN sz L ps (ndsOf h subs d ps.length) d.a d.b = true := by
  rw [parseN, Bool.and_eq_true, if_pos hk, Bool.and_eq_true] at hp
  exact hp.2
theorem parse_leaf {d : Pd} {ps : List Ps} {h : Hd} {subs : List Nd} (hp : parseN sz L (.mk d ps) (.mk h subs) = true) (hk : ¬ 5 ≤ h.kind) : ps = [] := by
  rw [parseN, Bool.and_eq_true, if_neg hk, Bool.and_eq_true, decide_eq_true_eq] at hp
  exact List.eq_nil_of_length_eq_zero hp.2.1
theorem Keeps.cellb {w w' : World} {g : Nat} (hk : Keeps (· = g) w w') {p : Addr} {v : Value} (h : w.cell? p = some v) (hg : p.block ≠ g) : w'.cell? p = some v := cell_keeps h hk hg
theorem own_ne {w : World} {B g nn c z : Nat} {l : List (Int × Int)} {t : TypeId} {cs : Array Value} (hO : OwnSp w B (.slice (some ⟨g, 0, none⟩) nn c) l) (hb : Blk w z t cs) (ht : t ≠ 74) : z ≠ g := fun e => by
  subst e
  rcases OwnR.slice hO with ⟨h0, _⟩ | ⟨g', cap, cur, hv, _, hB, _⟩
  · cases h0
  · simp only [Value.slice.injEq, Option.some.injEq, Addr.mk.injEq, and_true] at hv
    rw [← hv.1] at hB
    exact hb.ne hB ht rfl

set_option maxRecDepth 100000 in
set_option maxHeartbeats 8000000 in
theorem walk_any : ∀ (p : Ps) (n : Nd) (svn svp : Value) (W w : World) (B g nn c : Nat) (l : List (Int × Int)), NdOk W n svn → PsOk W p svp → formB n = true → smallN n → smallP p → parseN sz L p n = true → Ext W w → W.heap.size ≤ g → OwnSp w B (.slice (some ⟨g, 0, none⟩) nn c) l →
    Calls Tryd.prog 68 #[nodeV n.h svn, psV p.d svp, .slice (some ⟨g, 0, none⟩) nn c] w fun r w' => r = .returned (.tuple #[]) ∧ OwnSp w' B (.slice (some ⟨g, 0, none⟩) nn c) (walkN p n l) ∧ Keeps (· = g) w w' := by
  refine Ps.ind fun d ps ih n svn svp W w B g nn c l hn hp hf hsm hsp hpar hx hg hO => ?_
  obtain ⟨h, subs⟩ := n
  have hcase := form_cases hf
  have hsub := form_sub hf
  obtain ⟨A, cs, rfl⟩ := hn.shape
  obtain ⟨A', cp, rfl⟩ := hp.shape
  obtain ⟨hlen, hsml⟩ := hsm
  obtain ⟨hplen, hpsm⟩ := hsp
  simp only [Nd.subs, Ps.subs] at *
  show Calls _ _ #[nodeV h _, psV d _, _] _ _
  have IH := Lib.hid (fun q hq n hm svn svq W w B g nn c l hn hp hpar hx hg hO => ih q hq n svn svq W w B g nn c l hn hp (hsub n hm) (smallL_mem hsml n hm) (smallPL_mem hpsm q hq) hpar hx hg hO)
  have HN := Lib.hid hn
  have HP := Lib.hid hp
  have HU := Lib.hid (fun n (hm : n ∈ subs) sv W w l (hn : NdOk W n sv) (hx : Ext W w) hg hO => unset_any n sv W w B g nn c l hn (hsub n hm) (smallL_mem hsml n hm) hx hg hO)
  obtain ⟨nds, HD⟩ : ∃ nds, Hid (nds = ndsOf h subs d ps.length) := ⟨_, Lib.hid rfl⟩
  obtain ⟨res, HR⟩ : ∃ res, Hid (res = walkR ps nds (if h.kind = 7 then setS h.num (d.a, d.b) (unsetL subs l) else l)) := ⟨_, Lib.hid rfl⟩
  have hres : walkN (.mk d ps) (.mk h subs) l = res := by rw [walkN, HR.out, HD.out]
  rw [hres]
  have HNN := Lib.hid hO.len
  have HPA := Lib.hid hpar
  clear ih hsub hf hn hp hsml hpsm hres hpar
  go_enter Tryd.func68, Tryd.ntmps68
  go_upto_region 1 with (first
    | (refine wpl_boxNd rfl _ rfl h _ rfl ?_; intro z w1 hb hx1 ex sx)
    | (refine wpl_boxPs rfl _ rfl d _ rfl ?_; intro y w2 hc hx2 ey sy))
  have hb2 := hb.ext hx2
  have hx12 := hx1.trans hx2
  replace hO := OwnR.ext hO hx12
  have hkw : Keeps (· = g) w w2 := Keeps.of_ext hx12
  replace hx2 := hx.trans hx12
  have HZG := Lib.hid (own_ne hO hb2 (by decide))
  have HYG := Lib.hid (own_ne hO hc (by decide))
  clear hb hx1 ex sx ey sy hx hx12
  have n0 : w2.cell? ⟨z, 0, none⟩ = some (.int .i64 h.kind) := hb2.cell 0
  have n5 : w2.cell? ⟨z, 5, none⟩ = some (.slice A subs.length cs) := hb2.cell 5
  have n5k := n5
  have n6 : w2.cell? ⟨z, 6, none⟩ = some (.int .i64 h.num) := hb2.cell 6
  have p0 : w2.cell? ⟨y, 0, none⟩ = some (.int .i64 d.a) := hc.cell 0
  have p1 : w2.cell? ⟨y, 1, none⟩ = some (.int .i64 d.b) := hc.cell 1
  have p2 : w2.cell? ⟨y, 2, none⟩ = some (.int .i64 d.k) := hc.cell 2
  have p3 : w2.cell? ⟨y, 3, none⟩ = some (.slice A' ps.length cp) := hc.cell 3
  clear hb2 hc
  by_cases hk5 : 5 ≤ h.kind
  case neg =>
    have hps := parse_leaf HPA.out hk5
    have FIN := Lib.hid (show res = l by rw [HR.out, if_neg (by omega), hps, walkR])
    have hk : h.kind = 1 ∨ h.kind = 2 ∨ h.kind = 3 ∨ h.kind = 4 := by omega
    clear HR HD HN HP IH HPA HU hcase hk5 hps n5 n5k n6 p0 p1 p2 p3
    rcases hk with hk | hk | hk | hk
    all_goals
      rw [hk] at n0
      clear hk
      go_wp2
      go_end0
      exact ⟨rfl, by rw [FIN.out]; exact hO, hkw⟩
  obtain ⟨hokk, hrow⟩ := parse_inv HPA.out hk5
  rw [← HD.out] at hrow
  have HRow := Lib.hid (rowN_get ps nds _ _ hrow)
  clear HPA hrow
  rcases hcase with ⟨h1, _⟩ | ⟨h1, _⟩ | ⟨h1, _⟩ | ⟨h1, _⟩ | ⟨hkind, hs⟩ | ⟨hkind, hs⟩ | ⟨hkind, hs, hnum, _⟩ | ⟨hkind, hcs0⟩
  iterate 4
    · omega
  · -- a row
    have hok2 : ps.length = subs.length := by
      unfold okB at hokk
      rw [if_neg (by omega), if_neg (by omega), if_pos hkind, decide_eq_true_eq] at hokk
      exact hokk
    have HOK := Lib.hid hok2.symm
    have HD2 := Lib.hid (show nds = subs by rw [HD.out]; unfold ndsOf; rw [if_neg (by omega), if_neg (by omega)])
    have hcase := True.intro
    clear hokk hok2 HU
    have HR2 := Lib.hid (show res = walkR ps nds l by rw [HR.out, if_neg (by omega)])
    rw [hkind] at n0
    have HKL := Lib.hid (show nds.length = ps.length by rw [HD2.out, HOK.out])
    clear HR HD hkind hcase hk5 n6 p0 p1 p2 HOK
    go_upto_region 11 with fail
    clear n0 n5 p3
    have hk22 : Keeps (· = g) w2 w2 := Keeps.refl _ _
    go_loopw [63] (fun i wr => ∃ (k : Nat), k ≤ ps.length ∧ i = .int .i64 k ∧ OwnSp wr B (.slice (some ⟨g, 0, none⟩) nn c) (walkR (ps.take k) (nds.take k) l) ∧ Keeps (· = g) w2 wr) (fun i _ => ps.length - (intOf i).toNat)
    case atStart => exact ⟨0, Nat.zero_le _, rfl, by rw [List.take_zero, walkR]; exact hO, hk22⟩
    case round =>
      clear hk22 hO
      obtain ⟨k, hk, rfl, hO, hkr⟩ := hrel
      have hxr := hx2.keep1 hkr hg
      by_cases hlt : k < ps.length
      · obtain ⟨hkn, hpr⟩ := HRow.out k hlt
        have hj : k < subs.length := by rw [HD2.out] at hkn; exact hkn
        have t2 : (k : Int) < (subs.length : Int) := by omega
        have hnd : nds[k] = subs[k] := by simp only [HD2.out]
        obtain ⟨g0, o0, svq, rfl, hat0, hok0⟩ := HP.out.get k hlt
        obtain ⟨g1, o1, svj, rfl, hat1, hok1⟩ := HN.out.get k hj
        skip
        rw [hnd] at hpr
        have hst := walkR_step hlt hkn l
        rw [hnd] at hst
        have HST := Lib.hid hst
        have IHk := Lib.hid (fun w' (hw' : Ext W w') hO' => IH.out ps[k] (List.getElem_mem hlt) subs[k] (List.getElem_mem hj) svj svq W w' B g nn c (walkR (ps.take k) (nds.take k) l) hok1 hok0 hpr hw' hg hO')
        have hsl0 := Lib.hid hok0.sl
        have hat0' := hat0.ext hxr
        have hat1' := hat1.ext hxr
        have c5 := hkr.cellb n5k HZG.out
        clear hat0 hat1 hok0 hok1 hst hnd hpr IH HN HP HRow HD2
        generalize subs[k] = nj at *
        clear hj hkn
        generalize ps[k] = q at *
        generalize hdq : q.d = dq at *
        generalize hhn : nj.h = hn at *
        have HDQ := Lib.hid hdq
        have HHN := Lib.hid hhn
        clear hdq hhn
        generalize walkN q nj (walkR (ps.take k) (nds.take k) l) = lres at *
        generalize walkR (ps.take k) (nds.take k) l = lk at *
        have t1 : (k : Int) < (ps.length : Int) := by omega
        go_upto_region 13 with (first
          | (refine wpl_loadPs rfl _ rfl g0 (o0 + k * 4) dq svq rfl hat0' ?_)
          | (refine wpl_allocPs rfl rfl ?_; intro b w3 hb hx3 eb sb)
          | (refine wpl_storePs rfl _ _ rfl rfl b dq ⟨0, 0, 0⟩ svq _ rfl rfl hsl0.out hb ?_; intro w4 hb4 hk4))
        have hx34 := hx3.keep1 hk4 eb
        have hO4 := OwnR.ext hO hx34
        have HC := Lib.hid (IHk.out w4.drew (hxr.trans hx34).drewr (OwnR.ext hO4 (Ext.refl w4).drewr))
        have hk04 := hkr.ext' hx34.drewr
        have c54 := hx34.cell c5
        have A0 := Lib.hid hb4.ps.drew
        have A1 := Lib.hid ((hat1'.ext hx34).drew)
        clear hb hx3 hk4 eb sb hx34 hat0' hat1' hO IHk hO4 c5 hb4
        refine wp_region_still_tail 7 (by kernel_rfl) (by kernel_rfl) ?_
        simp only [List.take_succ_cons, List.take_zero, List.drop_succ_cons, List.drop_zero]
        repeat still_step
        refine wpStill_loadNd _ rfl rfl g1 (o1 + k * 10) hn svj rfl A1.out ?_
        repeat still_step
        refine wpStill_loadPs _ rfl rfl b 0 dq svq rfl A0.out ?_
        repeat still_step
        refine wpStill_nil ?_
        change wpList _ _ _ _ _ w4.drew
        go_wp2_with (go_at_call 68; refine HC.out.mono ?_; rintro e w5 ⟨rfl, hO5, hk5⟩)
        go_roundw
        case rel => exact ⟨k + 1, by omega, by go_num, by rw [HST.out]; exact hO5, hk04.trans hk5 (fun _ _ e => e)⟩
        case measure => simp [intOf]; omega
      · have hfin : walkR (ps.take k) (nds.take k) l = res := by rw [HR2.out, show k = ps.length by omega]; exact walkR_done (HKL.out.symm) l
        rw [hfin] at hO
        have t1 : ¬ (k : Int) < (ps.length : Int) := by omega
        clear IH HN HP HRow hfin
        go_wp2
        go_end0
        exact ⟨rfl, hO, hkw.trans hkr (fun _ _ e => e)⟩
  · -- one of several
    have hok2 : ps.length = 1 ∧ 0 ≤ d.k ∧ d.k < subs.length := by
      unfold okB at hokk
      rw [if_pos hkind, decide_eq_true_eq] at hokk
      exact hokk
    obtain ⟨hp1, hk0, hkl⟩ := hok2
    have HD2 := Lib.hid (show nds = [subs.getD d.k.toNat ndInh.default] by rw [HD.out]; unfold ndsOf; rw [if_pos hkind])
    obtain ⟨j, hj⟩ := Int.eq_ofNat_of_zero_le hk0
    have hjl : j < subs.length := by omega
    obtain ⟨q, rfl⟩ := len_one hp1
    obtain ⟨hkn, hpr⟩ := HRow.out 0 (by simp)
    obtain ⟨g0, o0, svq, rfl, hat0, hok0⟩ := HP.out.get 0 (by simp)
    obtain ⟨g1, o1, svj, rfl, hat1, hok1⟩ := HN.out.get j hjl
    have hnd : nds = [subs[j]] := by rw [HD2.out, hj, Int.toNat_natCast, List.getD_eq_getElem?_getD, List.getElem?_eq_getElem hjl]; rfl
    subst hnd
    have HR2 := Lib.hid (show res = walkN q subs[j] l by rw [HR.out, if_neg (by omega), walkR, walkR])
    simp only [List.getElem_cons_zero, Nat.zero_mul, Nat.add_zero, List.length_singleton] at hpr hat0 hok0 p3
    have HC := Lib.hid (IH.out q (by simp) subs[j] (List.getElem_mem hjl) svj svq W w2.drew B g nn c l hok1 hok0 hpr hx2.drewr hg (OwnR.ext hO (Ext.refl w2).drewr))
    have A0 := Lib.hid (hat0.ext hx2).drew
    have A1 := Lib.hid (hat1.ext hx2).drew
    rw [hkind] at n0
    rw [hj] at p2
    have t2 : (j : Int) < (subs.length : Int) := by omega
    clear HR HD HD2 hokk HU HN HP IH HRow hkn hpr hat0 hok0 hat1 hok1 hp1 hk0 hkl hj hkind hk5 n5k n6 p0 p1 hO
    generalize subs[j] = nj at *
    generalize hdq : q.d = dq at *
    generalize hhn : nj.h = hn at *
    have HDQ := Lib.hid hdq
    have HHN := Lib.hid hhn
    clear hdq hhn hjl
    generalize walkN q nj l = lres at *
    go_upto_region 8 with fail
    refine wp_region_still_tail 11 (by kernel_rfl) (by kernel_rfl) ?_
    simp only [List.take_succ_cons, List.take_zero, List.drop_succ_cons, List.drop_zero]
    repeat still_step
    refine wpStill_loadNd _ rfl rfl g1 (o1 + j * 10) hn svj rfl A1.out ?_
    repeat still_step
    refine wpStill_loadPs _ rfl rfl g0 o0 dq svq rfl A0.out ?_
    repeat still_step
    refine wpStill_nil ?_
    change wpList _ _ _ _ _ w2.drew
    go_wp2_with (go_at_call 68; refine HC.out.mono ?_; rintro e w5 ⟨rfl, hO5, hk5⟩)
    go_end0
    exact ⟨rfl, by rw [HR2.out]; exact hO5, (hkw.drew).trans hk5 (fun _ _ e => e)⟩
  · -- a group
    have hp1 : ps.length = 1 := by
      unfold okB at hokk
      rw [if_neg (by omega), if_pos hkind, decide_eq_true_eq] at hokk
      exact hokk
    have HD2 := Lib.hid (show nds = subs by rw [HD.out]; unfold ndsOf; rw [if_neg (by omega), if_neg (by omega)])
    obtain ⟨q, rfl⟩ := len_one hp1
    obtain ⟨n, rfl⟩ := len_one hs
    obtain ⟨hkn, hpr⟩ := HRow.out 0 (by simp)
    have hnd : nds = [n] := HD2.out
    subst hnd
    obtain ⟨g0, o0, svq, rfl, hat0, hok0⟩ := HP.out.get 0 (by simp)
    obtain ⟨g1, o1, svj, rfl, hat1, hok1⟩ := HN.out.get 0 (by simp)
    simp only [List.getElem_cons_zero, Nat.zero_mul, Nat.add_zero, List.length_singleton] at hpr hat0 hok0 hat1 hok1 p3 n5 n5k
    obtain ⟨lu, HLU⟩ : ∃ lu, Hid (lu = unsetN n l) := ⟨_, Lib.hid rfl⟩
    obtain ⟨ls, HLS⟩ : ∃ ls, Hid (ls = setS h.num (d.a, d.b) lu) := ⟨_, Lib.hid rfl⟩
    have HR2 := Lib.hid (show res = walkN q n ls by rw [HR.out, if_pos hkind, walkR, walkR, unsetL, unsetL, HLS.out, HLU.out])
    have hlu : lu.length = l.length := by rw [HLU.out, unsetN_len]
    have HCU := Lib.hid (HU.out n (by simp) svj W w2 l hok1 hx2 hg hO)
    rw [← HLU.out] at HCU
    have HCW := Lib.hid (fun w' (hw' : Ext W w') hO' => IH.out q (by simp) n (by simp) svj svq W w' B g nn c ls hok1 hok0 hpr hw' hg hO')
    have A1u := Lib.hid (hat1.ext hx2)
    rw [hkind] at n0
    have HLL := Lib.hid (HNN.out.trans hlu.symm)
    obtain ⟨num, hnu⟩ := Int.eq_ofNat_of_zero_le (show 0 ≤ h.num by omega)
    rw [hnu] at n6 HLS
    have HLS2 := Lib.hid (show ls = if num < lu.length then lu.set num (d.a, d.b) else lu by rw [HLS.out]; unfold setS; simp)
    clear HR HD HD2 hokk HU HN HP IH HRow hkn hpr hok0 hok1 hp1 hkind hk5 hlu hnu hnum HLS HLU HNN hs hO
    generalize hdq : q.d = dq at *
    generalize hhn : n.h = hn at *
    have HDQ := Lib.hid hdq
    have HHN := Lib.hid hhn
    clear hdq hhn
    generalize d.a = a at *
    generalize d.b = b at *
    go_upto_region 4 with (first
      | (refine wpl_loadNd rfl _ rfl g1 o1 hn svj rfl A1u.out ?_)
      | (go_at_call 99; refine HCU.out.mono ?_; rintro e w5 ⟨rfl, hO5, hk5⟩))
    replace n5k := hk5.cellb n5k HZG.out
    replace n6 := hk5.cellb n6 HZG.out
    replace p0 := hk5.cellb p0 HYG.out
    replace p1 := hk5.cellb p1 HYG.out
    replace p3 := hk5.cellb p3 HYG.out
    replace hx2 := hx2.keep1 hk5 hg
    replace hkw := hkw.trans hk5 (fun _ _ e => e)
    clear n0 n5 A1u HCU hk5 p2
    by_cases t : num < lu.length
    case' pos =>
      have t2 : (num : Int) < (nn : Int) := by have := HLL.out; omega
      have HLS3 := Lib.hid (HLS2.out.trans (if_pos t))
      clear HLS2
      go_upto_region 6 with (refine wpl_setSp rfl _ _ rfl rfl B g _ c lu num (a, b) rfl rfl hO5 t ?_; intro w6 hO6 hk6)
      replace n5k := hk6.cellb n5k HZG.out
      replace p3 := hk6.cellb p3 HYG.out
      replace hx2 := hx2.keep1 hk6 hg
      replace hkw := hkw.trans hk6 (fun _ _ e => e)
      rw [← HLS3.out] at hO6
      clear hk6 n6 p0 p1 hO5 t t2 HLS3
    case' neg =>
      have t2 : ¬ (num : Int) < (nn : Int) := by have := HLL.out; omega
      have HLS3 := Lib.hid (HLS2.out.trans (if_neg t))
      clear HLS2
      go_upto_region 6 with fail
      have hO6 := hO5
      rw [← HLS3.out] at hO6
      clear n6 p0 p1 hO5 t t2 HLS3
      generalize w5 = w6 at *
    all_goals
      have A0 := Lib.hid (hat0.ext hx2).drew
      have A1 := Lib.hid (hat1.ext hx2).drew
      have HC := Lib.hid (HCW.out w6.drew hx2.drewr (OwnR.ext hO6 (Ext.refl w6).drewr))
      clear hat0 hat1 HCW hO6
      refine wp_region_still_tail 9 (by kernel_rfl) (by kernel_rfl) ?_
      simp only [List.take_succ_cons, List.take_zero, List.drop_succ_cons, List.drop_zero]
      repeat still_step
      refine wpStill_loadNd _ rfl rfl g1 o1 hn svj rfl A1.out ?_
      repeat still_step
      refine wpStill_loadPs _ rfl rfl g0 o0 dq svq rfl A0.out ?_
      repeat still_step
      refine wpStill_nil ?_
      change wpList _ _ _ _ _ w6.drew
      go_wp2_with (go_at_call 68; refine HC.out.mono ?_; rintro e w7 ⟨rfl, hO7, hk7⟩)
      go_end0
      exact ⟨rfl, by rw [HR2.out]; exact hO7, (hkw.drew).trans hk7 (fun _ _ e => e)⟩
  · -- a repeat
    have HOK := True.intro
    have HD2 := Lib.hid (show nds = List.replicate ps.length (subs.getD 0 ndInh.default) by rw [HD.out]; unfold ndsOf; rw [if_neg (by omega), if_pos hkind])
    have hcase := True.intro
    clear hokk HU
    have HR2 := Lib.hid (show res = walkR ps nds l by rw [HR.out, if_neg (by omega)])
    rw [hkind] at n0
    have HKL := Lib.hid (show nds.length = ps.length by rw [HD2.out, List.length_replicate])
    clear HR HD hkind hcase hk5 n6 p0 p1 p2 HOK
    go_upto_region 17 with fail
    clear n0 n5 p3
    have hk22 : Keeps (· = g) w2 w2 := Keeps.refl _ _
    go_loopw [82] (fun i wr => ∃ (k : Nat), k ≤ ps.length ∧ i = .int .i64 k ∧ OwnSp wr B (.slice (some ⟨g, 0, none⟩) nn c) (walkR (ps.take k) (nds.take k) l) ∧ Keeps (· = g) w2 wr) (fun i _ => ps.length - (intOf i).toNat)
    case atStart => exact ⟨0, Nat.zero_le _, rfl, by rw [List.take_zero, walkR]; exact hO, hk22⟩
    case round =>
      clear hk22 hO
      obtain ⟨k, hk, rfl, hO, hkr⟩ := hrel
      have hxr := hx2.keep1 hkr hg
      by_cases hlt : k < ps.length
      · obtain ⟨hkn, hpr⟩ := HRow.out k hlt
        have hj : 0 < subs.length := by omega
        have t2 : (0 : Int) < (subs.length : Int) := by omega
        have hnd : nds[k] = subs[0] := by simp only [HD2.out, List.getElem_replicate]; rw [List.getD_eq_getElem?_getD, List.getElem?_eq_getElem hj]; rfl
        obtain ⟨g0, o0, svq, rfl, hat0, hok0⟩ := HP.out.get k hlt
        obtain ⟨g1, o1, svj, rfl, hat1, hok1⟩ := HN.out.get 0 hj
        rw [Nat.zero_mul, Nat.add_zero] at hat1
        rw [hnd] at hpr
        have hst := walkR_step hlt hkn l
        rw [hnd] at hst
        have HST := Lib.hid hst
        have IHk := Lib.hid (fun w' (hw' : Ext W w') hO' => IH.out ps[k] (List.getElem_mem hlt) subs[0] (List.getElem_mem hj) svj svq W w' B g nn c (walkR (ps.take k) (nds.take k) l) hok1 hok0 hpr hw' hg hO')
        have hsl0 := Lib.hid hok0.sl
        have hat0' := hat0.ext hxr
        have hat1' := hat1.ext hxr
        have c5 := hkr.cellb n5k HZG.out
        clear hat0 hat1 hok0 hok1 hst hnd hpr IH HN HP HRow HD2
        generalize subs[0] = nj at *
        clear hj hkn
        generalize ps[k] = q at *
        generalize hdq : q.d = dq at *
        generalize hhn : nj.h = hn at *
        have HDQ := Lib.hid hdq
        have HHN := Lib.hid hhn
        clear hdq hhn
        generalize walkN q nj (walkR (ps.take k) (nds.take k) l) = lres at *
        generalize walkR (ps.take k) (nds.take k) l = lk at *
        have t1 : (k : Int) < (ps.length : Int) := by omega
        go_upto_region 19 with (first
          | (refine wpl_loadPs rfl _ rfl g0 (o0 + k * 4) dq svq rfl hat0' ?_)
          | (refine wpl_allocPs rfl rfl ?_; intro b w3 hb hx3 eb sb)
          | (refine wpl_storePs rfl _ _ rfl rfl b dq ⟨0, 0, 0⟩ svq _ rfl rfl hsl0.out hb ?_; intro w4 hb4 hk4))
        have hx34 := hx3.keep1 hk4 eb
        have hO4 := OwnR.ext hO hx34
        have HC := Lib.hid (IHk.out w4.drew (hxr.trans hx34).drewr (OwnR.ext hO4 (Ext.refl w4).drewr))
        have hk04 := hkr.ext' hx34.drewr
        have c54 := hx34.cell c5
        have A0 := Lib.hid hb4.ps.drew
        have A1 := Lib.hid ((hat1'.ext hx34).drew)
        clear hb hx3 hk4 eb sb hx34 hat0' hat1' hO IHk hO4 c5 hb4
        refine wp_region_still_tail 6 (by kernel_rfl) (by kernel_rfl) ?_
        simp only [List.take_succ_cons, List.take_zero, List.drop_succ_cons, List.drop_zero]
        repeat still_step
        refine wpStill_loadNd _ rfl rfl g1 (o1) hn svj rfl A1.out ?_
        repeat still_step
        refine wpStill_loadPs _ rfl rfl b 0 dq svq rfl A0.out ?_
        repeat still_step
        refine wpStill_nil ?_
        change wpList _ _ _ _ _ w4.drew
        go_wp2_with (go_at_call 68; refine HC.out.mono ?_; rintro e w5 ⟨rfl, hO5, hk5⟩)
        go_roundw
        case rel => exact ⟨k + 1, by omega, by go_num, by rw [HST.out]; exact hO5, hk04.trans hk5 (fun _ _ e => e)⟩
        case measure => simp [intOf]; omega
      · have hfin : walkR (ps.take k) (nds.take k) l = res := by rw [HR2.out, show k = ps.length by omega]; exact walkR_done (HKL.out.symm) l
        rw [hfin] at hO
        have t1 : ¬ (k : Int) < (ps.length : Int) := by omega
        clear IH HN HP HRow hfin
        go_wp2
        go_end0
        exact ⟨rfl, hO, hkw.trans hkr (fun _ _ e => e)⟩
end

end Go.Proofs.YthddlhpndaffjaaDoor
