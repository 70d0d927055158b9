/- expand.repeat as a contract: a repeat in form written out. Condition: the tree lies in memory, its lists are short; what 'expanded' answers for the tree below. -/
import Derived.Test.YthddlhpndaffjaaDoorTree2
import Derived.Test.YthddlhpndaffjaaDoorNodeI
namespace Go.Proofs.YthddlhpndaffjaaDoor
open Go Go.RowKit

theorem NdNew.far {B : Nat} {W0 W : World} {n : Nd} {sv v : Value} (h : NdNew B W0 n sv) (hx : Ext W0 W) (hv : ∀ i, v.ownBlock = some i → W0.heap.size ≤ i) : NdIn W (Off W v) n sv := h.ok.far hx hv

set_option maxRecDepth 100000 in
set_option maxHeartbeats 8000000 in
theorem repeat_any (h : Hd) (x0 : Nd) (sv : Value) (w : World) (hn : NdOk w (.mk h [x0]) sv) (hf : formedB h 1 = true) (hk : h.kind = 8) (hsm : smallN (expN x0))
    (IH : ∀ svx w', NdOk w x0 svx → Ext w w' → Calls Tryd.prog 51 #[nodeV x0.h svx] w' (RetNd w' (expN x0))) :
    Calls Tryd.prog 75 #[nodeV h sv] w (RetNd w (repN h (expN x0))) := by
  obtain ⟨r1, r2, r3⟩ := formed_rep hf hk
  obtain ⟨A, c, rfl⟩ := hn.shape
  obtain ⟨g0, o0, svx, rfl, hat, hok⟩ := hn.get 0 (by simp)
  simp only [List.getElem_cons_zero, Nat.zero_mul, Nat.add_zero] at hat hok
  have HX := Lib.hid (fun w' (hx : Ext w w') => IH svx w' hok hx)
  have HS0 := Lib.hid (fun W => seq_any [] (.slice none 0 0) W ⟨none, 0, rfl, trivial⟩ ⟨by simp, trivial⟩)
  have HF := Lib.hid hf
  have HR := Lib.hid (show repN h (expN x0) = if h.max = 0 then .mk (hdV 1) [] else if h.min = 0 ∧ (h.max = 1 ∨ h.max = -1) then .mk h [expN x0] else seqN (repL h (expN x0)) from rfl)
  have HSM := Lib.hid hsm
  clear IH hn hk hok hf hsm
  generalize repN h (expN x0) = res at *
  generalize expN x0 = y at *
  simp only [Nd.subs, List.length_cons, List.length_nil] at *
  go_enter Tryd.func75, Tryd.ntmps75
  go_upto_region 1 with (first
    | (refine wpl_boxNd rfl _ rfl h _ rfl ?_; intro b w1 hb hx1 eb sb)
    | (refine wpl_allocNd rfl rfl ?_; intro z w2 hz hx2 ez sz))
  have hx12 := hx1.trans hx2
  have hb2 := hb.ext hx2
  have hat2 := hat.ext hx12
  have c5 : w2.cell? ⟨b, 5, none⟩ = some (.slice (some ⟨g0, o0, none⟩) 1 c) := hb2.cell 5
  have c7 : w2.cell? ⟨b, 7, none⟩ = some (.int .i64 h.min) := hb2.cell 7
  have c8 : w2.cell? ⟨b, 8, none⟩ = some (.int .i64 h.max) := hb2.cell 8
  have c9 : w2.cell? ⟨b, 9, none⟩ = some (.bool h.bare) := hb2.cell 9
  have hbz : b < z := by omega
  have hwz : w.heap.size ≤ z := by omega
  have hwb : w.heap.size ≤ b := eb
  clear hb hx1 hat eb sb ez
  by_cases hm0 : h.max = 0
  · have HR2 := Lib.hid (HR.out.trans (if_pos hm0))
    rw [hm0] at c8
    clear hm0 HR HX HF c5 c7 c9 r1 r2 r3 hat2
    go_wp2_with (first
      | (go_at_call 74; refine (HS0.out _).mono ?_; rintro e w6 ⟨sv6, rfl, hn6, hx6⟩)
      | (refine wpl_storeNd rfl _ _ rfl rfl z _ _ sv6 _ rfl rfl hn6.ok.sl (hz.ext hx6) ?_; intro w7 hz7 hk7))
    have h2 := hx12.size
    exact ret_nd rfl rfl rfl hz7 ⟨sv6, by rw [HR2.out]; rfl, by rw [HR2.out]; exact (hn6.keep1 hk7 sz).mono h2, (hx12.trans hx6).keep1 hk7 hwz⟩
  have HR2 := Lib.hid (HR.out.trans (if_neg hm0))
  clear HR HS0
  go_upto_region 4 with (first
    | (refine wpl_loadNd rfl _ rfl g0 o0 x0.h svx rfl hat2 ?_)
    | (go_at_call 51; refine (HX.out _ hx12).mono ?_; rintro e w3 ⟨sv3, rfl, hn3, hx3⟩)
    | (refine wpl_allocNd rfl rfl ?_; intro p w4 hp hx4 ep sp)
    | (refine wpl_storeNd rfl _ _ rfl rfl p y.h _ sv3 _ rfl rfl hn3.ok.sl hp ?_; intro w5 hp5 hk5; have hx5 := hx4.keep1 hk5 ep))
  have hx25 := hx3.trans hx5
  replace c7 := hx25.cell c7
  replace c8 := hx25.cell c8
  replace c9 := hx25.cell c9
  replace hb2 := hb2.ext hx25
  replace hz := hz.ext hx25
  have hn5 := Lib.hid (hn3.ext hx5)
  have hxw := hx12.trans hx25
  have h2 := hx12.size
  have h5 := hx25.size
  have hzp : z < p := by have := hx3.size; omega
  have hb52 : b < w5.heap.size := by omega
  have hz52 : z < w5.heap.size := by omega
  have hp52 := hp5.lt
  have hsl3 := hn3.ok.sl
  clear hx12 hx2 hx3 hx4 hx5 hx25 hn3 hp hk5 ep sp HX hat2 c5
  by_cases hm1 : h.min = 0 ∧ (h.max = 1 ∨ h.max = -1)
  · have HR3 := Lib.hid (HR2.out.trans (if_pos hm1))
    clear HR2 HF
    obtain ⟨hm1, hm2⟩ := hm1
    rw [hm1] at c7
    rcases hm2 with hm2 | hm2
    all_goals
      rw [hm2] at c8
      clear hm0 hm1 hm2 c9 r1 r2 r3
      go_wp2_with (first
        | (refine wpl_loadNd rfl _ rfl p 0 y.h sv3 rfl hp5.nd ?_)
        | (refine wpl_oneNd rfl _ rfl y.h sv3 rfl ?_; intro g6 w6 hg6 hx6 e6 s6)
        | (refine wpl_storeSubs rfl _ _ rfl rfl b h _ _ rfl rfl (isSl_mk _ _ _) (hb2.ext hx6) ?_; intro w7 hb7 hk7)
        | (refine wpl_loadNd rfl _ rfl b 0 h _ rfl hb7.nd ?_)
        | (refine wpl_storeNd rfl _ _ rfl rfl z h _ _ _ rfl rfl (isSl_mk _ _ _) ((hz.ext hx6).keep1 hk7 (by omega)) ?_; intro w8 hz8 hk8))
      exact ret_nd rfl rfl rfl hz8 ⟨.slice (some ⟨g6, 0, none⟩) 1 1, by rw [HR3.out]; rfl, by rw [HR3.out]; exact (((NdNew.one hn5.out hx6 hg6 e6 h5 h 1).keep1 hk7 (by omega)).keep1 hk8 (by omega)).mono (by omega), ((hxw.trans hx6).keep1 hk7 (by omega)).keep1 hk8 (by omega)⟩
  have HR3 := Lib.hid (HR2.out.trans (if_neg hm1))
  clear HR2
  have HM := Lib.hid (show repL h y = List.replicate h.min.toNat y ++ optsL y (h.bare || decide (0 < h.min)) (h.max - h.min).toNat ++ (if h.max = -1 then [optN (-1) true y] else []) from rfl)
  have hL0 : LstIn w5 w5.heap.size (.slice none 0 0) [] := LstIn.nil _ _
  have HDone := Lib.hid (fun W v (l : List (Nd × Value)) (hW : Ext w W) (hL : LstIn W w5.heap.size v l) (hl : l.map (·.1) = repL h y) => seq_any (l.map (·.1)) v W (hL.nds _) (by
    rw [hl]
    refine ⟨by rw [repL_len]; split <;> omega, smallL_of fun m hm => ?_⟩
    rcases mem_repL hm with rfl | ⟨c, rfl⟩ | ⟨_, rfl⟩
    · exact HSM.out
    · exact small_opt HSM.out
    · exact small_opt HSM.out))
  generalize h.min = mn at *
  generalize h.max = mx at *
  generalize h.bare = bare at *
  generalize repL h y = lst at *
  have hx5 : Ext w5 w5 := Ext.refl _
  have HF2 := Lib.hid hm1
  have HF3 := Lib.hid hm0
  clear hm0 hm1
  simp only [Act.put, List.setIfInBounds_toArray, List.set_cons_succ, List.set_cons_zero]
  go_cut [28] (fun v wx => v = .bool false ∧ w5 = wx)
  case first =>
    by_cases hm : mn = 0
    · subst hm
      have n1 : (mx == 1) = false := by rw [beq_eq_false_iff_ne]; have := HF2.out; omega
      have n2 : (mx == -1) = false := by rw [beq_eq_false_iff_ne]; have := HF2.out; omega
      go_wp2
      all_goals
        go_meet
        case rel => exact ⟨rfl, rfl⟩
    · have n1 : (mn == 0) = false := by rw [beq_eq_false_iff_ne]; exact hm
      go_wp2
      all_goals
        go_meet
        case rel => exact ⟨rfl, rfl⟩
  obtain ⟨rfl, rfl⟩ := hcut
  go_wp2
  go_loopw [4, 35] (fun v i wr => ∃ (k : Nat) (l : List (Nd × Value)), (k : Int) ≤ mn ∧ i = .int .i64 k ∧ l.map (·.1) = List.replicate k y ∧ LstIn wr w5.heap.size v l ∧ Ext w5 wr) (fun _ i _ => mn.toNat - (intOf i).toNat)
  case atStart => exact ⟨0, [], by omega, rfl, rfl, hL0, hx5⟩
  case round =>
    clear hL0 hx5
    obtain ⟨k, l, hk, rfl, hl, hL, hx⟩ := hrel
    have hll : l.length = k := by have := congrArg List.length hl; simpa using this
    have hll2 : l.length ≤ 1000000000 := by omega
    have HL := Lib.hid hl
    have HK := Lib.hid hll
    clear hl hll
    by_cases hlt : (k : Int) < mn
    · have hfar := Lib.hid (fun W (hW : Ext w5 W) => hn5.out.far (v := u4) hW (fun i hi => (hL.ownB i hi).1))
      go_wp2_with (first
        | (refine wpl_loadNd rfl _ rfl p 0 y.h sv3 rfl (hp5.ext hx).nd ?_)
        | (refine wpl_oneNd rfl _ rfl y.h sv3 rfl ?_; intro g6 w6 hg6 hx6 e6 s6)
        | (refine wpl_appIn rfl _ _ rfl w5.heap.size u4 l y sv3 g6 1 rfl rfl (hL.ext hx6) (hx.trans hx6).size (hfar.out _ (hx.trans hx6)) hg6 hll2 ?_; intro v7 w7 hL7 hE7))
      have hx7 := hE7 w5 (hx.trans hx6) (Nat.le_refl _)
      clear hfar hL hx hx6 hg6 e6 s6 hE7
      go_roundw
      case rel => exact ⟨k + 1, l ++ [(y, sv3)], by omega, by go_num, by rw [List.map_append, HL.out, List.replicate_succ']; rfl, hL7, hx7⟩
      case measure => simp [intOf]; omega
    · have HKM := Lib.hid (show k = mn.toNat by omega)
      replace c7 := hx.cell c7
      have k8 := c8
      replace c8 := hx.cell c8
      replace c9 := hx.cell c9
      have hx55 : Ext wr wr := Ext.refl wr
      go_upto_region 12 with fail
      go_cut [5] (fun v wx => v = .bool (bare || decide (0 < mn)) ∧ wr = wx)
      case first =>
        clear HR3 HM HSM HDone
        cases bare
        all_goals
          by_cases hp : 0 < mn
          all_goals
            go_wp2
            all_goals
              go_meet
              case rel => exact ⟨by simp [hp], rfl⟩
      obtain ⟨rfl, rfl⟩ := hcut
      clear hx55 c9
      generalize (bare || decide (0 < mn)) = b0 at *
      have hL0 := hL
      go_wp2
      go_loopw [4, 5, 6] (fun v bv nv ws => ∃ (m : Nat) (l2 : List (Nd × Value)), m ≤ (mx - mn).toNat ∧ nv = .int .i64 (mn + m) ∧ bv = .bool (if m = 0 then b0 else true) ∧ l2.map (·.1) = List.replicate mn.toNat y ++ optsL y b0 m ∧ LstIn ws w5.heap.size v l2 ∧ Ext w5 ws) (fun _ _ nv _ => (mx - intOf nv).toNat)
      case atStart => exact ⟨0, l, by omega, by simp, rfl, by rw [HL.out, optsL, List.append_nil, HKM.out], hL0, hx⟩
      case round =>
        clear hL0 hL HL HK hll2 HKM hlt hk
        obtain ⟨m, l2, hm, rfl, rfl, hl2, hL, hx'⟩ := hrel
        have hll : l2.length = mn.toNat + m := by have := congrArg List.length hl2; rw [List.length_append, List.length_replicate, optsL_len] at this; simpa using this
        have hll2 : l2.length ≤ 1000000000 := by omega
        have HL := Lib.hid hl2
        clear hl2 hll
        replace c8 := hx'.cell k8
        have hfar := Lib.hid (fun W (hW : Ext w5 W) => hn5.out.far (v := u4) hW (fun i hi => (hL.ownB i hi).1))
        by_cases hlt : mn + (m : Int) < mx
        · have HB := Lib.hid (optsL_snoc y b0 m)
          generalize (if m = 0 then b0 else true) = bb at *
          have q1 : IntKind.i64.wrap (mn + (m : Int) + 1) = mn + (m : Int) + 1 := by rw [IntKind.wrap_i64]; omega
          go_wp2_with (first
            | (refine wpl_loadNd rfl _ rfl p 0 y.h sv3 rfl (hp5.ext hx').nd ?_)
            | (refine wpl_oneNd rfl _ rfl y.h sv3 rfl ?_; intro g6 w6 hg6 hx6 e6 s6)
            | (refine wpl_oneNd rfl _ rfl ⟨8, noS, 0, 0, 1, bb⟩ _ (node_lit _ _ _ _ _ _) ?_; intro g7 w7 hg7 hx7 e7 s7; have hin := ((hfar.out w6 (hx'.trans hx6)).one hg6 ⟨s6, fun e => by have := (hL.ownB _ e).2; omega⟩ ⟨8, noS, 0, 0, 1, bb⟩ 1).off hx7)
            | (refine wpl_appIn rfl _ _ rfl w5.heap.size u4 l2 (optN 1 bb y) _ g7 1 rfl rfl (hL.ext (hx6.trans hx7)) ((hx'.trans hx6).trans hx7).size hin hg7 hll2 ?_; intro v8 w8 hL8 hE8))
          have hx8 := hE8 w5 ((hx'.trans hx6).trans hx7) (Nat.le_refl _)
          have HB2 := Lib.hid (show List.replicate mn.toNat y ++ optsL y b0 (m + 1) = l2.map (·.1) ++ [optN 1 bb y] by rw [HL.out, HB.out, List.append_assoc])
          clear hfar hL hx' hx6 hx7 hg6 hg7 e6 e7 s6 s7 hin hE8 c7 c8 HL HB
          go_roundw
          case rel => exact ⟨m + 1, l2 ++ [(optN 1 bb y, _)], by omega, by congr 1; omega, by rw [if_neg (by omega)], by rw [HB2.out, List.map_append]; rfl, hL8, hx8⟩
          case measure => simp [intOf]; omega
        · have hmm : m = (mx - mn).toNat := by omega
          have HMM := Lib.hid hmm
          have hz' := hz.ext hx'
          by_cases h1 : mx = -1
          · subst h1
            have HFin := Lib.hid (fun W v sv (hW : Ext w W) (hL : LstIn W w5.heap.size v (l2 ++ [(optN (-1) true y, sv)])) => (by
              have he : (l2 ++ [(optN (-1) true y, sv)]).map (·.1) = lst := by rw [HM.out, if_pos rfl, ← HMM.out, List.map_append, HL.out]; rfl
              have := HDone.out W v _ hW hL he
              rw [he, ← HR3.out] at this
              exact this : Calls Tryd.prog 74 #[v] W (RetNd W res)))
            clear HL HMM HM HDone HR3 HF2 HF3 hmm hlt c7 hm r3
            go_wp2_with (first
              | (refine wpl_loadNd rfl _ rfl p 0 y.h sv3 rfl (hp5.ext hx').nd ?_)
              | (refine wpl_oneNd rfl _ rfl y.h sv3 rfl ?_; intro g6 w6 hg6 hx6 e6 s6)
              | (refine wpl_oneNd rfl _ rfl ⟨8, noS, 0, 0, -1, true⟩ _ (node_lit _ _ _ _ _ _) ?_; intro g7 w7 hg7 hx7 e7 s7; have hin := ((hfar.out w6 (hx'.trans hx6)).one hg6 ⟨s6, fun e => by have := (hL.ownB _ e).2; omega⟩ ⟨8, noS, 0, 0, -1, true⟩ 1).off hx7)
              | (refine wpl_appIn rfl _ _ rfl w5.heap.size u4 l2 (optN (-1) true y) _ g7 1 rfl rfl (hL.ext (hx6.trans hx7)) ((hx'.trans hx6).trans hx7).size hin hg7 hll2 ?_; intro v8 w8 hL8 hE8; have hx8 := hE8 w5 ((hx'.trans hx6).trans hx7) (Nat.le_refl _))
              | (go_at_call 74; refine (HFin.out _ _ _ (hxw.trans hx8) hL8).mono ?_; rintro e w9 ⟨sv9, rfl, hn9, hx9⟩)
              | (refine wpl_storeNd rfl _ _ rfl rfl z res.h _ sv9 _ rfl rfl hn9.ok.sl (hz.ext (hx8.trans hx9)) ?_; intro w10 hz10 hk10))
            have h8 := hx8.size
            exact ret_nd rfl rfl rfl hz10 ⟨sv9, rfl, (hn9.keep1 hk10 (by omega)).mono (by omega), ((hxw.trans hx8).trans hx9).keep1 hk10 hwz⟩
          · have HFin := Lib.hid (fun W v (hW : Ext w W) (hL : LstIn W w5.heap.size v l2) => (by
              have he : l2.map (·.1) = lst := by rw [HM.out, if_neg h1, ← HMM.out, List.append_nil, HL.out]
              have := HDone.out W v _ hW hL he
              rw [he, ← HR3.out] at this
              exact this : Calls Tryd.prog 74 #[v] W (RetNd W res)))
            have n2 : (mx == -1) = false := by rw [beq_eq_false_iff_ne]; exact h1
            clear HL HMM HM HDone HR3 HF2 HF3 hmm c7 hm hfar
            go_wp2_with (first
              | (go_at_call 74; refine (HFin.out _ _ (hxw.trans hx') hL).mono ?_; rintro e w9 ⟨sv9, rfl, hn9, hx9⟩)
              | (refine wpl_storeNd rfl _ _ rfl rfl z res.h _ sv9 _ rfl rfl hn9.ok.sl (hz.ext (hx'.trans hx9)) ?_; intro w10 hz10 hk10))
            have h8 := hx'.size
            exact ret_nd rfl rfl rfl hz10 ⟨sv9, rfl, (hn9.keep1 hk10 (by omega)).mono (by omega), ((hxw.trans hx').trans hx9).keep1 hk10 hwz⟩

end Go.Proofs.YthddlhpndaffjaaDoor
