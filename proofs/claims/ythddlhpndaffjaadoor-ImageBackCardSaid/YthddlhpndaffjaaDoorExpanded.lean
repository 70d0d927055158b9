/- expand.expanded as a contract: a tree in form written out, as new memory. Condition: the tree lies in memory, its lists are short, it is in form. -/
import Derived.Test.YthddlhpndaffjaaDoorRepeat
namespace Go.Proofs.YthddlhpndaffjaaDoor
open Go Go.RowKit

set_option maxRecDepth 100000 in
set_option maxHeartbeats 8000000 in
theorem expanded_any : ∀ (n : Nd) (sv : Value) (w : World), NdOk w n sv → smallN n → formB n = true →
    Calls Tryd.prog 51 #[nodeV n.h sv] w (RetNd w (expN n)) := by
  refine Nd.ind fun hd subs ih sv w hn hsm hfm => ?_
  obtain ⟨A, c, rfl⟩ := hn.shape
  have hsmN := hsm
  obtain ⟨hlen, hsm⟩ := hsm
  have hfmN := hfm
  rw [formB, Bool.and_eq_true] at hfm
  obtain ⟨hfd, hfl⟩ := hfm
  have hfmem : ∀ n ∈ subs, formB n = true := fun n hm => by
    obtain ⟨a, b, rfl⟩ := List.append_of_mem hm
    rw [formL_app, formL, Bool.and_eq_true, Bool.and_eq_true] at hfl
    exact hfl.2.1
  have IH := Lib.hid (fun n hm sv w hn => ih n hm sv w hn (smallL_mem hsm n hm) (hfmem n hm))
  have HN := Lib.hid hn
  have HREP := Lib.hid (fun W (hW : Ext w W) (hk : hd.kind = 8) => (by
    obtain ⟨x, rfl⟩ := formed_one hfd hk
    have he : expN (.mk hd [x]) = repN hd (expN x) := by rw [expN, if_pos hk, expL, headN]
    rw [he]
    exact repeat_any hd x _ W (hn.ext hW) hfd hk (small_exp x hsm.1 (hfmem x (by simp))) (fun svx w' hx hw' => ih x (by simp) svx w' (hx.ext hw') hsm.1 (hfmem x (by simp))) : Calls Tryd.prog 75 #[nodeV hd (.slice A subs.length c)] W (RetNd W (expN (.mk hd subs)))))
  have HE := Lib.hid (fun hk : hd.kind ≠ 8 => (by rw [expN, if_neg hk] : expN (.mk hd subs) = .mk hd (expL subs)))
  clear ih hsm hn hsmN hfmN hfl hfmem hfd
  generalize expN (.mk hd subs) = res at *
  simp only [Nd.h, Nd.subs] at *
  go_enter Tryd.func51, Tryd.ntmps51
  go_upto_region 1 with (first
    | (refine wpl_boxNd rfl _ rfl hd _ rfl ?_; intro b w1 hb hx1 eb sb)
    | (refine wpl_allocNd rfl rfl ?_; intro z w2 hz hx2 ez sz))
  have hx12 := hx1.trans hx2
  have hb2 := hb.ext hx2
  have c0 : w2.cell? ⟨b, 0, none⟩ = some (.int .i64 hd.kind) := hb2.cell 0
  have c5 : w2.cell? ⟨b, 5, none⟩ = some (.slice A subs.length c) := hb2.cell 5
  have hbz : b < z := by omega
  have hwz : w.heap.size ≤ z := by omega
  have hwb : w.heap.size ≤ b := eb
  clear hb hx1 hx2 eb sb
  have hsz12 := hx12.size
  by_cases hk8 : hd.kind = 8
  · have HR := Lib.hid (HREP.out w2 hx12 hk8)
    rw [hk8] at c0
    clear HREP HE hk8 c5 IH HN
    go_wp2_with (first
      | (refine wpl_loadNd rfl _ rfl b 0 hd _ rfl hb2.nd ?_)
      | (go_at_call 75; refine HR.out.mono ?_; rintro e w6 ⟨sv6, rfl, hn6, hx6⟩)
      | (refine wpl_storeNd rfl _ _ rfl rfl z res.h _ sv6 _ rfl rfl hn6.ok.sl (hz.ext hx6) ?_; intro w7 hz7 hk7))
    exact ret_nd rfl rfl rfl hz7 ⟨sv6, rfl, (hn6.keep1 hk7 (by omega)).mono (by omega), (hx12.trans hx6).keep1 hk7 hwz⟩
  · have HE2 := Lib.hid (HE.out hk8)
    clear HREP HE
    have n1 : (hd.kind == 8) = false := by rw [beq_eq_false_iff_ne]; exact hk8
    have hL0 : LstFp w2 w2.heap.size 27 (.slice none 0 0) [] := LstFp.nil _ _ _
    have hx22 : Ext w2 w2 := Ext.refl w2
    go_wp2
    go_loopw [3, 14] (fun v i wr => ∃ (k : Nat) (l : List Kid), k ≤ subs.length ∧ i = .int .i64 k ∧ l.map (·.1) = expL (subs.take k) ∧ LstFp wr w2.heap.size 27 v l ∧ Ext w2 wr) (fun _ i _ => subs.length - (intOf i).toNat)
    case atStart => exact ⟨0, [], Nat.zero_le _, rfl, by rw [List.take_zero, expL]; rfl, hL0, hx22⟩
    case round =>
      clear hL0 hx22
      obtain ⟨k, l, hk, rfl, hl, hL, hx⟩ := hrel
      have HL := Lib.hid hl
      clear hl
      by_cases hlt : k < subs.length
      · obtain ⟨g0, o0, sv, rfl, hat, hok⟩ := HN.out.get k hlt
        have hxw := hx12.trans hx
        replace hat := hat.ext hxw
        have IHk := Lib.hid (fun w' (hw' : Ext wr w') => IH.out subs[k] (List.getElem_mem hlt) sv w' (NdOk.ext (hxw.trans hw') _ _ hok))
        have HM := Lib.hid (show (l.map (·.1)) ++ [expN subs[k]] = expL (subs.take (k + 1)) by rw [HL.out, take_snoc subs k hlt, expL_map, expL_map, List.map_append]; rfl)
        have hll : l.length = k := by have := congrArg List.length HL.out; rw [expL_map] at this; simp at this; omega
        have hll2 : l.length ≤ 1000000000 := by omega
        clear IH HN HL hll HE2
        have hsh := hok.sl
        generalize subs[k] = nk at *
        have d1 : (k : Int) < (subs.length : Int) := by omega
        go_wp2_with (first
          | (refine wpl_loadNd rfl _ rfl g0 (o0 + k * 10) nk.h sv rfl hat ?_)
          | (refine wpl_allocNd rfl rfl ?_; intro s w4 hs hx4 es ss)
          | (refine wpl_storeNd rfl _ _ rfl rfl s nk.h _ sv _ rfl rfl hsh hs ?_; intro w5 hs5 hk5; have hx5 := hx4.keep1 hk5 es)
          | (refine wpl_loadNd rfl _ rfl s 0 nk.h sv rfl hs5.nd ?_)
          | (go_at_call 51; refine (IHk.out _ hx5).mono ?_; rintro e w6 ⟨sv6, rfl, hn6, hx6⟩)
          | (refine wpl_oneNd rfl _ rfl (expN nk).h sv6 rfl ?_; intro g7 w7 hb7 hx7 e7 s7)
          | (refine wpl_appFp rfl _ _ rfl w2.heap.size u3 l (expN nk) sv6 g7 1 wr rfl rfl hL ((hx5.trans hx6).trans hx7) hx.size ((hn6.ext hx7).mono hx5.size) hb7 hll2 ?_; intro v8 w8 hL8 hx78 hg8))
        have hx8 : Ext w2 w8 := ext_grown_lst (hx.trans hx78) hL (Nat.le_refl _) hg8
        obtain ⟨f, hL8⟩ := hL8
        clear hL hx hat hs hx4 es ss hs5 hk5 hx5 hn6 hx6 hb7 hx7 hg8 hx78 hok e7 s7 hsh hxw
        go_roundw
        case rel => exact ⟨k + 1, l ++ [(expN nk, sv6, f)], by omega, by go_num, by simpa using HM.out, hL8, hx8⟩
        case measure => simp [intOf]; omega
      · have hkl : subs.take k = subs := List.take_of_length_le (by omega)
        rw [hkl] at HL
        have hb3 := hb2.ext hx
        have hz3 := hz.ext hx
        have HN2 := Lib.hid (hL.node hd)
        rw [HL.out, ← HE2.out] at HN2
        have hd1 : ¬ (k : Int) < (subs.length : Int) := by omega
        obtain ⟨A', c', rfl, _⟩ := hL.len
        have hres : res.h = hd := by rw [HE2.out]; rfl
        have HRH := Lib.hid hres
        clear hkl IH HN HL c5 hL hres
        go_wp2_with (first
          | (refine wpl_storeSubs rfl _ _ rfl rfl b hd _ _ rfl rfl (isSl_mk _ _ _) hb3 ?_; intro w4 hb4 hk4)
          | (refine wpl_loadNd rfl _ rfl b 0 hd _ rfl hb4.nd ?_)
          | (refine wpl_storeNd rfl _ _ rfl rfl z hd _ _ _ rfl rfl (isSl_mk _ _ _) (hz3.keep1 hk4 (by omega)) ?_; intro w5 hz5 hk5))
        have hsz := hx.size
        exact ret_nd rfl rfl rfl hz5 ⟨.slice A' l.length c', by rw [HRH.out]; rfl, ((HN2.out.keep1 hk4 (by omega)).keep1 hk5 (by omega)).mono (by omega), ((hx12.trans hx).keep1 hk4 (by omega)).keep1 hk5 (by omega)⟩

end Go.Proofs.YthddlhpndaffjaaDoor
