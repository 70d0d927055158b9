/- tree.copies, Seq, Rep, Bytes as contracts. Condition: the trees lie in memory, their lists are short. -/
import Derived.Test.YtkcgbdoplhgbmaaDoorCopy
import Derived.Test.YtkcgbdoplhgbmaaDoorExpP
namespace Go.Proofs.YtkcgbdoplhgbmaaDoor
open Go Go.RowKit

/-- What a call that makes a list of trees answers. -/
def RetLs (w : World) (ns : List Nd) (r : Ending) (w' : World) : Prop := ∃ v, r = .returned v ∧ NdNew w.heap.size w' (.mk (hdV 0) ns) v ∧ Ext w w'

set_option maxRecDepth 100000 in
set_option maxHeartbeats 4000000 in
theorem copies_any (ns : List Nd) (lv : Value) (w : World) (hn : NdOk w (.mk (hdV 0) ns) lv) (hsm : smallN (.mk (hdV 0) ns)) :
    Calls Tryd.prog 104 #[lv] w (RetLs w ns) := by
  obtain ⟨A, c, rfl⟩ := hn.shape
  obtain ⟨hlen, hsm⟩ := hsm
  have HC := Lib.hid (fun n (hm : n ∈ ns) sv w hn => copy_any n sv w hn (smallL_mem hsm n hm))
  have HN := Lib.hid hn
  clear hsm hn
  simp only [Nd.subs] at *
  go_enter Tryd.func104, Tryd.ntmps104
  go_upto_region 2 with (refine wpList_makeR0 rfl _ _ _ rfl w.heap.size 27 _ 10 96 Tryd.underlying25 info_ndZ ns.length rfl rfl (by omega) (by omega) (Nat.le_refl _) ?_; intro g w1 hO hx1 hg hg')
  have hL0 : LstFp w1 w.heap.size 27 (.slice (some ⟨g, 0, none⟩) 0 ns.length) [] := ⟨hO, (fun _ h => by cases h), List.nodup_nil, (fun _ h => by cases h)⟩
  clear hO
  go_wp2
  go_loopw [3, 11] (fun v i wr => ∃ (k : Nat) (l : List Kid), k ≤ ns.length ∧ i = .int .i64 k ∧ l.map (·.1) = ns.take k ∧ LstFp wr w.heap.size 27 v l ∧ Ext w wr) (fun _ i _ => ns.length - (intOf i).toNat)
  case atStart => exact ⟨0, [], Nat.zero_le _, rfl, rfl, hL0, hx1⟩
  case round =>
    clear hL0 hx1
    obtain ⟨k, l, hk, rfl, hl, hL, hx⟩ := hrel
    have HL := Lib.hid hl
    clear hl
    by_cases hlt : k < ns.length
    · obtain ⟨g0, o0, sv, rfl, hat, hok⟩ := HN.out.get k hlt
      replace hat := hat.ext hx
      have IHk := Lib.hid (fun w' (hw' : Ext wr w') => HC.out ns[k] (List.getElem_mem hlt) sv w' (NdOk.ext (hx.trans hw') _ _ hok))
      have HM := Lib.hid (show (l.map (·.1)) ++ [ns[k]] = ns.take (k + 1) by rw [HL.out, take_snoc ns k hlt])
      have hll : l.length = k := by have := congrArg List.length HL.out; simp at this; omega
      have hll2 : l.length ≤ 1000000000 := by omega
      clear HC HN HL hll
      generalize ns[k] = nk at *
      have d1 : (k : Int) < (ns.length : Int) := by omega
      go_wp2_with (first
        | (refine wpl_loadNd rfl _ rfl g0 (o0 + k * 10) nk.h sv rfl hat ?_)
        | (refine wpl_allocNd rfl rfl ?_; intro s w4 hs hx4 es ss)
        | (refine wpl_storeNd rfl _ _ rfl rfl s nk.h _ sv _ rfl rfl hok.sl hs ?_; intro w5 hs5 hk5; have hx5 := hx4.keep1 hk5 es)
        | (refine wpl_loadNd rfl _ rfl s 0 nk.h sv rfl hs5.nd ?_)
        | (go_at_call 59; refine (IHk.out _ hx5).mono ?_; rintro e w6 ⟨sv6, rfl, hn6, hx6⟩)
        | (refine wpl_oneNd rfl _ rfl nk.h sv6 rfl ?_; intro g7 w7 hb7 hx7 e7 s7)
        | (refine wpl_appFp rfl _ _ rfl w.heap.size u3 l nk sv6 g7 1 wr rfl rfl hL ((hx5.trans hx6).trans hx7) hx.size ((hn6.ext hx7).mono hx5.size) hb7 hll2 ?_; intro v8 w8 hL8 hx78 hg8))
      have hx8 : Ext w w8 := ext_grown_lst (hx.trans hx78) hL (Nat.le_refl _) hg8
      obtain ⟨f, hL8⟩ := hL8
      clear hL hx hat hs hx4 es ss hs5 hk5 hx5 hn6 hx6 hb7 hx7 hg8 hx78 hok e7 s7
      go_roundw
      case rel => exact ⟨k + 1, l ++ [(nk, sv6, f)], by omega, by go_num, by simpa using HM.out, hL8, hx8⟩
      case measure => simp [intOf]; omega
    · have hkl : ns.take k = ns := List.take_of_length_le (by omega)
      rw [hkl] at HL
      have hd1 : ¬ (k : Int) < (ns.length : Int) := by omega
      have HN2 := Lib.hid (hL.node (hdV 0))
      rw [HL.out] at HN2
      clear hkl HL HN HC
      obtain ⟨A', c', rfl, _⟩ := hL.len
      go_wp2
      go_ret
      exact ⟨_, rfl, HN2.out, hx⟩

set_option maxRecDepth 100000 in
set_option maxHeartbeats 4000000 in
theorem seq_any (ns : List Nd) (lv : Value) (w : World) (hn : NdOk w (.mk (hdV 0) ns) lv) (hsm : smallN (.mk (hdV 0) ns)) :
    Calls Tryd.prog 82 #[lv] w (RetNd w (seqN ns)) := by
  have HCs := Lib.hid (fun W (hW : Ext w W) => copies_any ns lv W (NdOk.ext hW _ _ hn) hsm)
  obtain ⟨A, c, rfl⟩ := hn.shape
  obtain ⟨hlen, hsm⟩ := hsm
  have HC := Lib.hid (fun n (hm : n ∈ ns) sv w hn => copy_any n sv w hn (smallL_mem hsm n hm))
  have HN := Lib.hid hn
  clear hsm hn
  simp only [Nd.subs] at *
  go_enter Tryd.func82, Tryd.ntmps82
  go_upto_region 1 with (refine wpl_allocNd rfl rfl ?_; intro z w2 hz hx2 ez sz)
  match ns, HCs, HC, HN, hlen with
  | [], HCs, HC, HN, hlen =>
    simp only [List.length_nil] at *
    clear HCs HC HN
    go_wp2_with (refine wpl_storeNd rfl _ _ rfl rfl z (hdV 1) _ (.slice none 0 0) _ rfl (node_lit _ _ _ _ _ _) (isSl_mk _ _ _) hz ?_; intro w5 hz5 hk5)
    exact ret_nd rfl rfl rfl hz5 ⟨_, rfl, NdNew.nil _ _ _ _ _, hx2.keep1 hk5 ez⟩
  | [x], HCs, HC, HN, hlen =>
    obtain ⟨g0, o0, sv, rfl, hat, hok⟩ := HN.out.get 0 (by simp)
    have H1 := Lib.hid (HC.out x (by simp) sv w2 (NdOk.ext hx2 _ _ hok))
    simp only [List.getElem_cons_zero, Nat.zero_mul, Nat.add_zero] at hat hok
    replace hat := hat.ext hx2
    simp only [List.length_cons, List.length_nil] at *
    clear HCs HC HN
    go_wp2_with (first
      | (refine wpl_loadNd rfl _ rfl g0 o0 x.h sv rfl hat ?_)
      | (go_at_call 59; refine H1.out.mono ?_; rintro e w6 ⟨sv6, rfl, hn6, hx6⟩)
      | (refine wpl_storeNd rfl _ _ rfl rfl z x.h _ sv6 _ rfl rfl hn6.ok.sl (hz.ext hx6) ?_; intro w5 hz5 hk5))
    have h2 := hx2.size
    exact ret_nd rfl rfl rfl hz5 ⟨_, rfl, (hn6.keep1 hk5 sz).mono h2, (hx2.trans hx6).keep1 hk5 ez⟩
  | x :: y :: r, HCs, HC, HN, hlen =>
    have d0 : 2 ≤ (x :: y :: r).length := by simp
    have H1 := Lib.hid (HCs.out w2 hx2)
    clear HCs HC HN
    have hseq : seqN (x :: y :: r) = .mk (hdV 5) (x :: y :: r) := rfl
    have HQ := Lib.hid hseq
    clear hseq
    generalize hL : (x :: y :: r).length = L at *
    clear hL
    generalize x :: y :: r = ns at *
    have d1 : ((L : Int) == 0) = false := by rw [beq_eq_false_iff_ne]; omega
    have d2 : ((L : Int) == 1) = false := by rw [beq_eq_false_iff_ne]; omega
    have d3 : ¬ L = 0 := by omega
    have d4 : ¬ L = 1 := by omega
    go_wp2_with (first
      | (go_at_call 104; refine H1.out.mono ?_; rintro e w6 ⟨sv6, rfl, hn6, hx6⟩; obtain ⟨A6, n6, c6, rfl⟩ := hn6.ok.sl)
      | (refine wpl_storeNd rfl _ _ rfl rfl z (hdV 5) _ _ _ rfl (node_lit _ _ _ _ _ _) (isSl_mk _ _ _) (hz.ext hx6) ?_; intro w5 hz5 hk5))
    have h2 := hx2.size
    exact ret_nd rfl rfl rfl hz5 ⟨.slice A6 n6 c6, by rw [HQ.out]; rfl, by rw [HQ.out]; exact ((hn6.head (h' := hdV 5)).keep1 hk5 sz).mono h2, (hx2.trans hx6).keep1 hk5 ez⟩

set_option maxRecDepth 100000 in
set_option maxHeartbeats 4000000 in
theorem rep_any (n : Nd) (sv : Value) (mn mx : Int) (w : World) (hn : NdOk w n sv) (hsm : smallN n) :
    Calls Tryd.prog 55 #[nodeV n.h sv, .int .i64 mn, .int .i64 mx] w (RetNd w (.mk ⟨8, noS, 0, mn, mx, false⟩ [n])) := by
  have HC := Lib.hid (fun W (hW : Ext w W) => copy_any n sv W (NdOk.ext hW _ _ hn) hsm)
  have hsl := hn.sl
  clear hn hsm
  go_enter Tryd.func55, Tryd.ntmps55
  go_wp2_with (first
    | (refine wpl_boxNd rfl _ rfl n.h _ rfl ?_; intro b w1 hb hx1 eb sb)
    | (refine wpl_allocNd rfl rfl ?_; intro z w2 hz hx2 ez sz)
    | (refine wpl_loadNd rfl _ rfl b 0 n.h sv rfl (hb.ext hx2).nd ?_)
    | (go_at_call 59; refine (HC.out _ (hx1.trans hx2)).mono ?_; rintro e w6 ⟨sv6, rfl, hn6, hx6⟩)
    | (refine wpl_oneNd rfl _ rfl n.h sv6 rfl ?_; intro g7 w7 hb7 hx7 e7 s7)
    | (refine wpl_storeNd rfl _ _ rfl rfl z ⟨8, noS, 0, mn, mx, false⟩ _ (.slice (some ⟨g7, 0, none⟩) 1 1) _ rfl (node_lit _ _ _ _ _ _) (isSl_mk _ _ _) ((hz.ext hx6).ext hx7) ?_; intro w8 hz8 hk8))
  have h1 := hx1.size
  have h2 := hx2.size
  have h6 := hx6.size
  exact ret_nd rfl rfl rfl hz8 ⟨_, rfl, ((NdNew.one hn6 hx7 hb7 e7 h6 _ 1).keep1 hk8 sz).mono (by omega), ((hx1.trans hx2).trans (hx6.trans hx7)).keep1 hk8 (by omega)⟩

end Go.Proofs.YtkcgbdoplhgbmaaDoor
