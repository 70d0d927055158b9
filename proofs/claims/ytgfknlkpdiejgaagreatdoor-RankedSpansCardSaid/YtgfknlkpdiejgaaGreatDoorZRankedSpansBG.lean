/- trawlnum.CopyNode as a contract: the tree as new memory. Condition: the tree lies in memory, its lists are short. trawlnum.Spoil and trawllaw14.spoilFirst as contracts: a tree whose lists lie in blocks of their own; only those turn. Condition: that; its lists are short. trawlnum.SameNodes, tree.Same, trawlref14.Same as contracts. Condition: both trees lie in memory, the first one's lists are short. trawlref22.Asked as a contract. Condition: the tree lies in memory, it has few nodes. trawlnum.Num as a contract: of nil, and of each of the 21 error values. No condition but where these lie. -/
import Derived.Test.YtgfknlkpdiejgaaGreatDoorZRankedSpansAT
import Derived.Test.YtgfknlkpdiejgaaGreatDoorZRankedSpansBF
import Derived.Test.YtgfknlkpdiejgaaGreatDoorZRankedSpansAE
import Derived.Deep.LoopGhost
import Derived.Test.YtgfknlkpdiejgaaGreatDoorZRankedSpansAF
import Derived.Test.YtgfknlkpdiejgaaGreatDoorZRankedSpansAS
import Derived.Test.YtgfknlkpdiejgaaGreatDoorZRankedSpansBD
import Derived.Test.YtgfknlkpdiejgaaGreatDoorZRankedSpansAW
import Derived.Test.YtgfknlkpdiejgaaGreatDoorErrs
namespace Go.Proofs.YtgfknlkpdiejgaaGreatDoor
open Go Go.RowKit

set_option maxRecDepth 100000 in
set_option maxHeartbeats 8000000 in
theorem copyNode_any : ∀ (n : Nd) (sv : Value) (w : World), NdOk w n sv → smallN n →
    Calls Tryz.prog 13 #[nodeV n.h sv] w (RetNd w n) := by
  refine Nd.ind fun hd subs ih sv w hn hsm => ?_
  obtain ⟨A, c, rfl⟩ := hn.shape
  obtain ⟨hlen, hsm⟩ := hsm
  have IH := Lib.hid (fun n hm sv w hn => ih n hm sv w hn (smallL_mem hsm n hm))
  have HN := Lib.hid hn
  clear ih hsm hn
  simp only [Nd.h, Nd.subs] at *
  go_enter Tryz.func13, Tryz.ntmps13
  go_upto_region 1 with (first
    | (refine wpl_boxNd rfl _ rfl hd _ rfl ?_; intro b w1 hb hx1 eb sb)
    | (refine wpl_allocNd rfl rfl ?_; intro z w2 hz hx2 ez sz))
  have hx12 := hx1.trans hx2
  have hb2 := hb.ext hx2
  have c5 : w2.cell? ⟨b, 5, none⟩ = some (.slice A subs.length c) := hb2.cell 5
  have hbz : b < z := by omega
  have hwz : w.heap.size ≤ z := by omega
  have hwb : w.heap.size ≤ b := eb
  clear hb hx1 hx2 eb sb
  have hsz12 := hx12.size
  have hL0 : LstFp w2 w2.heap.size 27 (.slice none 0 0) [] := LstFp.nil _ _ _
  have hx22 : Ext w2 w2 := Ext.refl w2
  go_wp2
  go_loopw [3, 9] (fun v i wr => ∃ (k : Nat) (l : List Kid), k ≤ subs.length ∧ i = .int .i64 k ∧ l.map (·.1) = subs.take k ∧ LstFp wr w2.heap.size 27 v l ∧ Ext w2 wr) (fun _ i _ => subs.length - (intOf i).toNat)
  case atStart => exact ⟨0, [], Nat.zero_le _, rfl, rfl, hL0, hx22⟩
  case round =>
    clear hL0 hx22
    obtain ⟨k, l, hk, rfl, hl, hL, hx⟩ := hrel
    have HL := Lib.hid hl
    clear hl
    by_cases hlt : k < subs.length
    · obtain ⟨g0, o0, sv, rfl, hat, hok⟩ := HN.out.get k hlt
      have hxw := hx12.trans hx
      replace hat := hat.ext hxw
      have IHk := Lib.hid (fun w' (hw' : Ext wr w') => IH.out subs[k] (List.getElem_mem hlt) sv w' (NdOk.ext (hxw.trans hw') _ _ hok))
      have HM := Lib.hid (show (l.map (·.1)) ++ [subs[k]] = subs.take (k + 1) by rw [HL.out, take_snoc subs k hlt])
      have hll : l.length = k := by have := congrArg List.length HL.out; simp at this; omega
      have hll2 : l.length ≤ 1000000000 := by omega
      clear IH HN HL hll
      have hsh := hok.sl
      generalize subs[k] = nk at *
      have d1 : (k : Int) < (subs.length : Int) := by omega
      go_wp2_with (first
        | (refine wpl_loadNd rfl _ rfl g0 (o0 + k * 10) nk.h sv rfl hat ?_)
        | (refine wpl_allocNd rfl rfl ?_; intro s w4 hs hx4 es ss)
        | (refine wpl_storeNd rfl _ _ rfl rfl s nk.h _ sv _ rfl rfl hsh hs ?_; intro w5 hs5 hk5; have hx5 := hx4.keep1 hk5 es)
        | (refine wpl_loadNd rfl _ rfl s 0 nk.h sv rfl hs5.nd ?_)
        | (go_at_call 13; refine (IHk.out _ hx5).mono ?_; rintro e w6 ⟨sv6, rfl, hn6, hx6⟩)
        | (refine wpl_oneNd rfl _ rfl nk.h sv6 rfl ?_; intro g7 w7 hb7 hx7 e7 s7)
        | (refine wpl_appFp rfl _ _ rfl w2.heap.size u3 l nk sv6 g7 1 wr rfl rfl hL ((hx5.trans hx6).trans hx7) hx.size ((hn6.ext hx7).mono hx5.size) hb7 hll2 ?_; intro v8 w8 hL8 hx78 hg8))
      have hx8 : Ext w2 w8 := ext_grown_lst (hx.trans hx78) hL (Nat.le_refl _) hg8
      obtain ⟨f, hL8⟩ := hL8
      clear hL hx hat hs hx4 es ss hs5 hk5 hx5 hn6 hx6 hb7 hx7 hg8 hx78 hok e7 s7 hsh hxw
      go_roundw
      case rel => exact ⟨k + 1, l ++ [(nk, sv6, f)], by omega, by go_num, by simpa using HM.out, hL8, hx8⟩
      case measure => simp [intOf]; omega
    · have hkl : subs.take k = subs := List.take_of_length_le (by omega)
      rw [hkl] at HL
      have hb3 := hb2.ext hx
      have hz3 := hz.ext hx
      have HN2 := Lib.hid (hL.node hd)
      rw [HL.out] at HN2
      have hd1 : ¬ (k : Int) < (subs.length : Int) := by omega
      obtain ⟨A', c', rfl, _⟩ := hL.len
      clear hkl IH HN HL c5 hL
      go_wp2_with (first
        | (refine wpl_storeSubs rfl _ _ rfl rfl b hd _ _ rfl rfl (isSl_mk _ _ _) hb3 ?_; intro w4 hb4 hk4)
        | (refine wpl_loadNd rfl _ rfl b 0 hd _ rfl hb4.nd ?_)
        | (refine wpl_storeNd rfl _ _ rfl rfl z hd _ _ _ rfl rfl (isSl_mk _ _ _) (hz3.keep1 hk4 (by omega)) ?_; intro w5 hz5 hk5))
      have hsz := hx.size
      exact ret_nd rfl rfl rfl hz5 ⟨.slice A' l.length c', rfl, ((HN2.out.keep1 hk4 (by omega)).keep1 hk5 (by omega)).mono (by omega), ((hx12.trans hx).keep1 hk4 (by omega)).keep1 hk5 (by omega)⟩

end Go.Proofs.YtgfknlkpdiejgaaGreatDoor

namespace Go.Proofs.YtgfknlkpdiejgaaGreatDoor
open Go Go.RowKit

theorem blk_setCells {g : Nat} {t : TypeId} : ∀ (vs : List Value) (o : Nat) (w : World) (cur : Array Value), Blk w g t cur →
    ∃ cur', Blk (w.setCells g o vs) g t cur' ∧ cur'.size = cur.size ∧ ∀ i, (i < o ∨ o + vs.length ≤ i) → cur'[i]? = cur[i]?
  | [], o, w, cur, h => ⟨cur, h, rfl, fun _ _ => rfl⟩
  | v :: r, o, w, cur, h => by
    obtain ⟨cur', h1, h2, h3⟩ := blk_setCells r (o + 1) _ _ (h.set o v)
    refine ⟨cur', h1, by rw [h2, Array.size_setIfInBounds], fun i hi => ?_⟩
    simp only [List.length_cons] at hi
    rw [h3 i (by omega), Array.getElem?_setIfInBounds_ne (by omega)]
theorem keeps_setCells {g : Nat} : ∀ (vs : List Value) (o : Nat) (w : World), Keeps (· = g) w (w.setCells g o vs)
  | [], _, w => Keeps.refl _ w
  | v :: r, o, w => ((Keeps.refl (· = g) w).setCell (p := ⟨g, o, none⟩) (.inr rfl) v).trans (keeps_setCells r (o + 1) _) (fun _ _ h => h)
section
variable {ops : Array Oper} {rest : List Oper} {o : Oper} {a : Act} {w : World} {Q : Exit → Act → World → Prop}
/-- The store of a whole node into a block known whole. -/
theorem wpl_setNdB (hgd : o.guard = none) (x y : Operand) (ho : o.op = .store 27 x y) (hd : o.dst = none) (g k : Nat) (h : Hd) (sv : Value) (hx : a.eval x = .pointer (some ⟨g, k, none⟩)) (hy : a.eval y = nodeV h sv) (hs : isSl sv)
    (t : TypeId) (cur : Array Value) (hB : Blk w g t cur) (hle : k + 10 ≤ cur.size)
    (hK : ∀ w1, (∃ cur', Blk w1 g t cur' ∧ cur'.size = cur.size ∧ ∀ i, (i < k ∨ k + 10 ≤ i) → cur'[i]? = cur[i]?) → Keeps (· = g) w w1 → wpList Tryz.prog ops Q rest a w1) : wpList Tryz.prog ops Q (o :: rest) a w := by
  have hpa : a.put o.dst undef = a := by rw [hd]; rfl
  rw [← hpa] at hK
  exact wpList_store_mid hgd 27 x y ho g k (nodeA h sv) hx hy (fun i hi => ⟨by rw [hB.cell, Array.getElem?_eq_getElem (by rw [nodeA_size] at hi; omega)]; rfl, hB.frozen _⟩) (info_ndA h sv) (nodeA_one hs) (hK _ (blk_setCells _ k w cur hB) (keeps_setCells _ _ _))
end

/-- spoilFirst: on the way down only the tree's own lists turn. -/
def SpF (w : World) (fp : List Nat) (r : Ending) (w' : World) : Prop := r = .returned (.tuple #[]) ∧ Keeps (· ∈ fp) w w'
def SpI (w : World) (fp : List Nat) (k : Nat) (p : Value) (wr : World) : Prop :=
  ∃ (m : Nd) (h' : Hd) (s : Value) (f : List Nat) (g o : Nat), p = .pointer (some ⟨g, o, none⟩) ∧ NdAt wr g o h' s ∧ NdFp wr (.mk h' m.subs) s f ∧ f.Nodup ∧ (∀ b ∈ f, b ∈ fp ∧ b < w.heap.size) ∧ g ∉ f ∧ smallN m ∧ f.length ≤ k ∧ Keeps (· ∈ fp) w wr
end Go.Proofs.YtgfknlkpdiejgaaGreatDoor

namespace Go.Proofs.YtgfknlkpdiejgaaGreatDoor
open Go Go.RowKit


set_option maxRecDepth 100000 in
set_option maxHeartbeats 8000000 in
theorem sameNodes_any : ∀ (a : Nd) (sva : Value) (b : Nd) (svb : Value) (w : World), NdOk w a sva → NdOk w b svb → smallN a →
    Calls Tryz.prog 15 #[nodeV a.h sva, nodeV b.h svb] w fun r w' => r = .returned (.bool (sameN a b)) ∧ Ext w w' := by
  refine Nd.ind fun hd subs ih sva b svb w hn hn' hsm => ?_
  obtain ⟨hd', subs'⟩ := b
  obtain ⟨A, c, rfl⟩ := hn.shape
  obtain ⟨A', c', rfl⟩ := hn'.shape
  obtain ⟨hlen, hsm⟩ := hsm
  have IH := Lib.hid (fun n hm sv b svb w hn hn' => ih n hm sv b svb w hn hn' (smallL_mem hsm n hm))
  have HN := Lib.hid hn
  have HN' := Lib.hid hn'
  have HR := Lib.hid (by rw [sameN] : sameN (.mk hd subs) (.mk hd' subs') = (sameH hd hd' && decide (subs.length = subs'.length) && sameL subs subs'))
  clear ih hsm hn hn'
  generalize sameN (.mk hd subs) (.mk hd' subs') = res at *
  simp only [Nd.h, Nd.subs] at *
  go_enter Tryz.func15, Tryz.ntmps15
  go_upto_region 1 with (first
    | (refine wpl_boxNd rfl _ rfl hd _ rfl ?_; intro x w1 hb hx1 ex sx)
    | (refine wpl_boxNd rfl _ rfl hd' _ rfl ?_; intro y w2 hc hx2 ey sy))
  have hb2 := hb.ext hx2
  have hx12 := hx1.trans hx2
  clear hb hx1 hx2 ex sx ey sy
  have c5 : w2.cell? ⟨x, 5, none⟩ = some (.slice A subs.length c) := hb2.cell 5
  have d5 : w2.cell? ⟨y, 5, none⟩ = some (.slice A' subs'.length c') := hc.cell 5
  go_cut [54] (fun v wx => v = .bool (!(sameH hd hd' && decide (subs.length = subs'.length))) ∧ w2 = wx)
  case first =>
    have c0 : w2.cell? ⟨x, 0, none⟩ = some (.int .i64 hd.kind) := hb2.cell 0
    have c1 : w2.cell? ⟨x, 1, none⟩ = some (.int .u64 (wd hd.set 0 : Int)) := hb2.cell 1
    have c2 : w2.cell? ⟨x, 2, none⟩ = some (.int .u64 (wd hd.set 1 : Int)) := hb2.cell 2
    have c3 : w2.cell? ⟨x, 3, none⟩ = some (.int .u64 (wd hd.set 2 : Int)) := hb2.cell 3
    have c4 : w2.cell? ⟨x, 4, none⟩ = some (.int .u64 (wd hd.set 3 : Int)) := hb2.cell 4
    have c6 : w2.cell? ⟨x, 6, none⟩ = some (.int .i64 hd.num) := hb2.cell 6
    have c7 : w2.cell? ⟨x, 7, none⟩ = some (.int .i64 hd.min) := hb2.cell 7
    have c8 : w2.cell? ⟨x, 8, none⟩ = some (.int .i64 hd.max) := hb2.cell 8
    have c9 : w2.cell? ⟨x, 9, none⟩ = some (.bool hd.bare) := hb2.cell 9
    have d0 : w2.cell? ⟨y, 0, none⟩ = some (.int .i64 hd'.kind) := hc.cell 0
    have d1 : w2.cell? ⟨y, 1, none⟩ = some (.int .u64 (wd hd'.set 0 : Int)) := hc.cell 1
    have d2 : w2.cell? ⟨y, 2, none⟩ = some (.int .u64 (wd hd'.set 1 : Int)) := hc.cell 2
    have d3 : w2.cell? ⟨y, 3, none⟩ = some (.int .u64 (wd hd'.set 2 : Int)) := hc.cell 3
    have d4 : w2.cell? ⟨y, 4, none⟩ = some (.int .u64 (wd hd'.set 3 : Int)) := hc.cell 4
    have d6 : w2.cell? ⟨y, 6, none⟩ = some (.int .i64 hd'.num) := hc.cell 6
    have d7 : w2.cell? ⟨y, 7, none⟩ = some (.int .i64 hd'.min) := hc.cell 7
    have d8 : w2.cell? ⟨y, 8, none⟩ = some (.int .i64 hd'.max) := hc.cell 8
    have d9 : w2.cell? ⟨y, 9, none⟩ = some (.bool hd'.bare) := hc.cell 9
    have hne := neq_set hd.set hd'.set
    have hS := Lib.hid (show sameH hd hd' = (decide (hd.kind = hd'.kind) && wordsB hd.set hd'.set && decide (hd.num = hd'.num) && decide (hd.min = hd'.min) && decide (hd.max = hd'.max) && (hd.bare == hd'.bare)) from rfl)
    clear HR IH HN HN' hb2 hc hx12
    generalize sameH hd hd' = sh at *
    generalize hd.kind = k1 at *
    generalize hd'.kind = k2 at *
    generalize hd.num = n1 at *
    generalize hd'.num = n2 at *
    generalize hd.min = m1 at *
    generalize hd'.min = m2 at *
    generalize hd.max = x1 at *
    generalize hd'.max = x2 at *
    generalize hd.bare = b1 at *
    generalize hd'.bare = b2 at *
    generalize wordsB hd.set hd'.set = ws at *
    have e0 : ((subs.length : Int) != (subs'.length : Int)) = !decide (subs.length = subs'.length) := by
      by_cases h : subs.length = subs'.length
      · simp [h]
      · have h2 : ¬ ((subs.length : Int) = (subs'.length : Int)) := by omega
        simp [h, h2]
    generalize decide (subs.length = subs'.length) = q at *
    by_cases t1 : k1 = k2
    case' neg => have e1 : (k1 != k2) = true := by simpa using t1
    case' pos =>
      subst t1
      cases ws
      case' true =>
        by_cases t3 : n1 = n2
        case' neg => have e1 : (n1 != n2) = true := by simpa using t3
        case' pos =>
          subst t3
          by_cases t4 : m1 = m2
          case' neg => have e1 : (m1 != m2) = true := by simpa using t4
          case' pos =>
            subst t4
            by_cases t5 : x1 = x2
            case' neg => have e1 : (x1 != x2) = true := by simpa using t5
            case' pos =>
              subst t5
              cases b1 <;> cases b2 <;> cases q
              all_goals
                simp only [Bool.not_true, Bool.not_false] at e0
    all_goals
      go_wp2
      all_goals
        go_meet
        case rel => exact ⟨by rw [hS.out]; first | (simp; done) | (simp [*]; done), rfl⟩
  obtain ⟨rfl, rfl⟩ := hcut
  clear hb2 hc
  cases hS : (sameH hd hd' && decide (subs.length = subs'.length))
  · have HR2 := Lib.hid (show res = false by rw [HR.out, hS, Bool.false_and])
    clear HR IH HN HN' hS
    go_wp2
    go_ret
    exact ⟨by rw [HR2.out]; rfl, hx12⟩
  · have HR2 := Lib.hid (show res = sameL subs subs' by rw [HR.out, hS, Bool.true_and])
    have hll : subs.length = subs'.length := by
      rw [Bool.and_eq_true, decide_eq_true_eq] at hS
      exact hS.2
    have HLL := Lib.hid hll
    clear HR hS hll
    have hx22 : Ext w2 w2 := Ext.refl w2
    simp only [Bool.not_true]
    go_wp2
    go_loopw [58] (fun i wr => ∃ k : Nat, k ≤ subs.length ∧ i = .int .i64 k ∧ sameL (subs.take k) (subs'.take k) = true ∧ Ext w2 wr) (fun i _ => subs.length - (intOf i).toNat)
    case atStart => exact ⟨0, Nat.zero_le _, rfl, by rw [List.take_zero, sameL], hx22⟩
    case round =>
      clear hx22
      obtain ⟨k, hk, rfl, hfl, hx⟩ := hrel
      have HL := Lib.hid hfl
      clear hfl
      replace c5 := hx.cell c5
      replace d5 := hx.cell d5
      by_cases hlt : k < subs.length
      · have hlt' : k < subs'.length := HLL.out ▸ hlt
        obtain ⟨g0, o0, sv, rfl, hat, hok⟩ := HN.out.get k hlt
        obtain ⟨g1, o1, sv', rfl, hat', hok'⟩ := HN'.out.get k hlt'
        have hxw := hx12.trans hx
        replace hat := (hat.ext hxw).drew
        replace hat' := (hat'.ext hxw).drew
        have HST := Lib.hid (sameL_step hlt hlt' HL.out)
        have HEN := Lib.hid (fun h => sameL_stop hlt hlt' h)
        have IHk := Lib.hid (IH.out subs[k] (List.getElem_mem hlt) sv subs'[k] sv' wr.drew (NdOk.ext hxw.drewr _ _ hok) (NdOk.ext hxw.drewr _ _ hok'))
        clear IH HN HN' HL hok hok'
        generalize sameN subs[k] subs'[k] = pk at *
        generalize subs[k] = nk at *
        generalize subs'[k] = nk' at *
        have t1 : (k : Int) < (subs.length : Int) := by omega
        have t2 : (k : Int) < (subs'.length : Int) := by omega
        go_upto_region 6 with fail
        refine wp_region_still_tail 10 (by kernel_rfl) (by kernel_rfl) ?_
        simp only [List.take_succ_cons, List.take_zero, List.drop_succ_cons, List.drop_zero]
        repeat still_step
        refine wpStill_loadNd _ rfl rfl g0 (o0 + k * 10) _ sv rfl hat ?_
        repeat still_step
        refine wpStill_loadNd _ rfl rfl g1 (o1 + k * 10) _ sv' rfl hat' ?_
        repeat still_step
        refine wpStill_nil ?_
        change wpList _ _ _ _ _ wr.drew
        clear hat hat'
        cases pk
        all_goals
          go_wp2_with (go_at_call 15; refine IHk.out.mono ?_; rintro e w6 ⟨rfl, hx6⟩)
        · go_ret
          exact ⟨by rw [HR2.out, HEN.out trivial]; rfl, hxw.drewr.trans hx6⟩
        · go_roundw
          case rel => exact ⟨k + 1, by omega, by go_num, HST.out, hx.drewr.trans hx6⟩
          case measure => simp [intOf]; omega
      · have hkl : subs.take k = subs := List.take_of_length_le (by omega)
        have hkl' : subs'.take k = subs' := List.take_of_length_le (by have := HLL.out; omega)
        rw [hkl, hkl'] at HL
        have t1 : ¬ (k : Int) < (subs.length : Int) := by omega
        clear IH HN HN' hkl hkl'
        go_wp2
        go_ret
        exact ⟨by rw [HR2.out, HL.out]; rfl, hx12.trans hx⟩

end Go.Proofs.YtgfknlkpdiejgaaGreatDoor

namespace Go.Proofs.YtgfknlkpdiejgaaGreatDoor
open Go Go.RowKit

section
variable {s : ByteArray} {c e : Int}
set_option maxRecDepth 100000 in
set_option maxHeartbeats 16000000 in
theorem rasked_any (t : Nd) (svn : Value) (G a b lim : Int) (w : World) (hn : NdOk w t svn) (hlim : lim ≤ 1000000) (hfew : 0 ≤ leftN t lim) :
    Calls Tryz.prog 9 #[nodeV t.h svn, srV s c e false, .int .i64 G, .int .i64 a, .int .i64 b] w fun r w' => r = .returned (.int .i64 (askN t s.size G [a, b] : Nat)) ∧ Ext w w' := by
  have HC := Lib.hid (fun W (hW : Ext w W) => check04_any t svn W lim (NdOk.ext hW _ _ hn) hlim hfew)
  have HK0 : Hid (chkN t ≠ 0 → askN t s.size G [a, b] = chkN t) := Lib.hid (fun h => by unfold askN; rw [if_pos h])
  have HK1 : Hid (chkN t = 0 → (a < 0 ∨ (s.size : Int) < a ∨ b < 0 ∨ (s.size : Int) < b ∨ G < 0 ∨ 999 < G) → askN t s.size G [a, b] = 15) := Lib.hid (fun h h2 => by
    unfold askN
    rw [if_neg (by simp [h]), if_pos]
    simp only [outB, List.any_cons, List.any_nil, Bool.or_false, Bool.or_eq_true, decide_eq_true_eq]
    omega)
  have HK2 : Hid (chkN t = 0 → ¬ (a < 0 ∨ (s.size : Int) < a ∨ b < 0 ∨ (s.size : Int) < b ∨ G < 0 ∨ 999 < G) → askN t s.size G [a, b] = 0) := Lib.hid (fun h h2 => by
    unfold askN
    rw [if_neg (by simp [h]), if_neg]
    simp only [outB, List.any_cons, List.any_nil, Bool.or_false, Bool.or_eq_true, decide_eq_true_eq]
    omega)
  have hsh := hn.shape
  generalize askN t s.size G [a, b] = res at *
  generalize chkN t = ck at *
  clear hn hlim hfew
  obtain ⟨A0, c0, hsv⟩ := hsh
  generalize t.subs.length = nl at *
  subst hsv
  generalize t.h = h at *
  unfold srV at *
  go_enter Tryz.func9, Tryz.ntmps9
  go_upto_region 1 with (refine wpl_boxNd rfl _ rfl h _ rfl ?_; intro z w1 hb hx1 ez sz)
  have hV := Blk.new w1 35 #[.string s, .int .i64 c, .int .i64 e, .bool false]
  have hx2 := hx1.alloc (.cells #[.string s, .int .i64 c, .int .i64 e, .bool false] 35)
  replace hb := hb.ext ((Ext.refl w1).alloc (.cells #[.string s, .int .i64 c, .int .i64 e, .bool false] 35))
  generalize w1.alloc (.cells #[.string s, .int .i64 c, .int .i64 e, .bool false] 35) = w2 at *
  generalize w1.heap.size = gu at *
  have HX2 := Lib.hid hx2
  have HZ := Lib.hid (fun W (hW : Ext w2 W) => (hb.ext hW).nd)
  have HU := Lib.hid (fun W (hW : Ext w2 W) => (⟨(hV.ext hW).cell 0, (hV.ext hW).cell 1, (hV.ext hW).cell 2, (hV.ext hW).cell 3⟩ : (W.cell? ⟨gu, 0, none⟩ = some (.string s) ∧ W.cell? ⟨gu, 1, none⟩ = some (.int .i64 c) ∧ W.cell? ⟨gu, 2, none⟩ = some (.int .i64 e) ∧ W.cell? ⟨gu, 3, none⟩ = some (.bool false))))
  clear hb hV hx1 ez sz hx2
  have KS := Lib.hid (fun w' (hw' : Ext w2 w') => (by
    have q1 := HZ.out w' hw'
    exact ⟨⟨q1 0 (by decide), q1 1 (by decide), q1 2 (by decide), q1 3 (by decide), q1 4 (by decide), q1 5 (by decide), q1 6 (by decide), q1 7 (by decide), q1 8 (by decide), q1 9 (by decide)⟩, HU.out w' hw'⟩ : (w'.cell? ⟨z, 0, none⟩ = some (.int .i64 h.kind) ∧ w'.cell? ⟨z, 1, none⟩ = some (.int .u64 (wd h.set 0 : Int)) ∧ w'.cell? ⟨z, 2, none⟩ = some (.int .u64 (wd h.set 1 : Int)) ∧ w'.cell? ⟨z, 3, none⟩ = some (.int .u64 (wd h.set 2 : Int)) ∧ w'.cell? ⟨z, 4, none⟩ = some (.int .u64 (wd h.set 3 : Int)) ∧ w'.cell? ⟨z, 5, none⟩ = some (.slice A0 nl c0) ∧ w'.cell? ⟨z, 6, none⟩ = some (.int .i64 h.num) ∧ w'.cell? ⟨z, 7, none⟩ = some (.int .i64 h.min) ∧ w'.cell? ⟨z, 8, none⟩ = some (.int .i64 h.max) ∧ w'.cell? ⟨z, 9, none⟩ = some (.bool h.bare)) ∧ (w'.cell? ⟨gu, 0, none⟩ = some (.string s) ∧ w'.cell? ⟨gu, 1, none⟩ = some (.int .i64 c) ∧ w'.cell? ⟨gu, 2, none⟩ = some (.int .i64 e) ∧ w'.cell? ⟨gu, 3, none⟩ = some (.bool false))))
  have hnd := HZ.out w2 (Ext.refl w2)
  go_upto_region 2 with (first
    | (refine wpl_loadNd rfl _ rfl z 0 h _ rfl hnd ?_)
    | (go_at_call 29; refine (HC.out w2 HX2.out).mono ?_; rintro e w3 ⟨rfl, hx3⟩))
  try simp only [Act.put, List.setIfInBounds_toArray, List.set_cons_zero, List.set_cons_succ]
  have HX3 := Lib.hid (HX2.out.trans hx3)
  obtain ⟨_, y0, _, _, _⟩ := KS.out w3 hx3
  clear KS HZ HU hnd hx3 HC
  by_cases h0 : ck = 0
  · have HA15 := Lib.hid (HK1.out h0)
    have HA0 := Lib.hid (HK2.out h0)
    subst h0
    clear HK0 HK1 HK2
    by_cases k0 : a < 0
    · have FIN : Hid (res = 15) := Lib.hid (HA15.out (by omega))
      have q0 : decide (a < 0) = true := decide_eq_true k0
      clear HA15 HA0 k0
      go_wp2
      go_ret
      exact ⟨by rw [FIN.out]; rfl, HX3.out⟩
    by_cases k1 : (s.size : Int) < a
    · have FIN : Hid (res = 15) := Lib.hid (HA15.out (by omega))
      have q1 : decide ((s.size : Int) < a) = true := decide_eq_true k1
      have q0 : decide (a < 0) = false := decide_eq_false k0
      clear HA15 HA0 k0 k1
      go_wp2
      go_ret
      exact ⟨by rw [FIN.out]; rfl, HX3.out⟩
    by_cases k2 : b < 0
    · have FIN : Hid (res = 15) := Lib.hid (HA15.out (by omega))
      have q2 : decide (b < 0) = true := decide_eq_true k2
      have q0 : decide (a < 0) = false := decide_eq_false k0
      have q1 : decide ((s.size : Int) < a) = false := decide_eq_false k1
      clear HA15 HA0 k0 k1 k2
      go_wp2
      go_ret
      exact ⟨by rw [FIN.out]; rfl, HX3.out⟩
    by_cases k3 : (s.size : Int) < b
    · have FIN : Hid (res = 15) := Lib.hid (HA15.out (by omega))
      have q3 : decide ((s.size : Int) < b) = true := decide_eq_true k3
      have q0 : decide (a < 0) = false := decide_eq_false k0
      have q1 : decide ((s.size : Int) < a) = false := decide_eq_false k1
      have q2 : decide (b < 0) = false := decide_eq_false k2
      clear HA15 HA0 k0 k1 k2 k3
      go_wp2
      go_ret
      exact ⟨by rw [FIN.out]; rfl, HX3.out⟩
    by_cases k4 : G < 0
    · have FIN : Hid (res = 15) := Lib.hid (HA15.out (by omega))
      have q4 : decide (G < 0) = true := decide_eq_true k4
      have q0 : decide (a < 0) = false := decide_eq_false k0
      have q1 : decide ((s.size : Int) < a) = false := decide_eq_false k1
      have q2 : decide (b < 0) = false := decide_eq_false k2
      have q3 : decide ((s.size : Int) < b) = false := decide_eq_false k3
      clear HA15 HA0 k0 k1 k2 k3 k4
      go_wp2
      go_ret
      exact ⟨by rw [FIN.out]; rfl, HX3.out⟩
    by_cases k5 : 999 < G
    · have FIN : Hid (res = 15) := Lib.hid (HA15.out (by omega))
      have q5 : decide (999 < G) = true := decide_eq_true k5
      have q0 : decide (a < 0) = false := decide_eq_false k0
      have q1 : decide ((s.size : Int) < a) = false := decide_eq_false k1
      have q2 : decide (b < 0) = false := decide_eq_false k2
      have q3 : decide ((s.size : Int) < b) = false := decide_eq_false k3
      have q4 : decide (G < 0) = false := decide_eq_false k4
      clear HA15 HA0 k0 k1 k2 k3 k4 k5
      go_wp2
      go_ret
      exact ⟨by rw [FIN.out]; rfl, HX3.out⟩
    have FIN : Hid (res = 0) := Lib.hid (HA0.out (by omega))
    have q0 : decide (a < 0) = false := decide_eq_false k0
    have q1 : decide ((s.size : Int) < a) = false := decide_eq_false k1
    have q2 : decide (b < 0) = false := decide_eq_false k2
    have q3 : decide ((s.size : Int) < b) = false := decide_eq_false k3
    have q4 : decide (G < 0) = false := decide_eq_false k4
    have q5 : decide (999 < G) = false := decide_eq_false k5
    clear HA15 HA0 k0 k1 k2 k3 k4 k5
    go_wp2
    go_ret
    exact ⟨by rw [FIN.out]; rfl, HX3.out⟩
  · have FIN := Lib.hid (HK0.out h0)
    have q0 : ((ck : Int) != 0) = true := by rw [bne_iff_ne]; omega
    clear HK0 HK1 HK2 h0 y0
    go_wp2
    go_ret
    exact ⟨by rw [FIN.out]; rfl, HX3.out⟩
end

end Go.Proofs.YtgfknlkpdiejgaaGreatDoor

namespace Go.Proofs.YtgfknlkpdiejgaaGreatDoor
open Go.RowKit

def errsC (A : Nat → Addr) : Array Value := ((List.range 21).map fun i => errV (A i)).toArray
theorem errsC_get (A : Nat → Addr) (i : Nat) (h : i < 21) : (errsC A)[i]? = some (errV (A i)) := by unfold errsC; simp [h]

theorem num_nil (w : World) : Calls Tryz.prog 10 #[.nilIface] w fun r w' => r = .returned (.int .i64 0) ∧ w = w' := by
  go_enter Tryz.func10, Tryz.ntmps10
  go_wp2
  go_ret
  exact ⟨rfl, rfl⟩

set_option maxRecDepth 100000 in
set_option maxHeartbeats 4000000 in
theorem num_err (A : Nat → Addr) (i : Nat) (w : World) (hi : i < 21) (h : ErrsAt w A) :
    Calls Tryz.prog 10 #[errV (A i)] w fun r w' => r = .returned (.int .i64 (i + 1 : Nat)) ∧ Ext w w' := by
  have H := Lib.hid h
  have v0 := h.var 0 (by omega)
  have v1 := h.var 1 (by omega)
  have v2 := h.var 2 (by omega)
  have v3 := h.var 3 (by omega)
  have v4 := h.var 4 (by omega)
  have v5 := h.var 5 (by omega)
  have v6 := h.var 6 (by omega)
  have v7 := h.var 7 (by omega)
  have v8 := h.var 8 (by omega)
  have v9 := h.var 9 (by omega)
  have v10 := h.var 10 (by omega)
  have v11 := h.var 11 (by omega)
  have v12 := h.var 12 (by omega)
  have v13 := h.var 13 (by omega)
  have v14 := h.var 14 (by omega)
  have v15 := h.var 15 (by omega)
  have v16 := h.var 16 (by omega)
  have v17 := h.var 17 (by omega)
  have v18 := h.var 18 (by omega)
  have v19 := h.var 19 (by omega)
  have v20 := h.var 20 (by omega)
  simp only [gb, gbs, List.getD_cons_zero, List.getD_cons_succ] at v0 v1 v2 v3 v4 v5 v6 v7 v8 v9 v10 v11 v12 v13 v14 v15 v16 v17 v18 v19 v20
  clear h
  unfold errV at *
  go_enter Tryz.func10, Tryz.ntmps10
  go_wp2
  have hB : Blk (w.alloc (.cells (errsC A) 38)) w.heap.size 38 (errsC A) := Blk.new w _ _
  have hx : Ext w (w.alloc (.cells (errsC A) 38)) := (Ext.refl w).alloc _
  have hE : Hid (ErrsAt (w.alloc (.cells (errsC A) 38)) A) := Lib.hid (H.out.ext hx)
  clear v0 v1 v2 v3 v4 v5 v6 v7 v8 v9 v10 v11 v12 v13 v14 v15 v16 v17 v18 v19 v20 H
  have ew : w.alloc (.cells (errsC A) 38) = w.alloc (.cells #[.iface 142 (.pointer (some (A 0))), .iface 142 (.pointer (some (A 1))), .iface 142 (.pointer (some (A 2))), .iface 142 (.pointer (some (A 3))), .iface 142 (.pointer (some (A 4))), .iface 142 (.pointer (some (A 5))), .iface 142 (.pointer (some (A 6))), .iface 142 (.pointer (some (A 7))), .iface 142 (.pointer (some (A 8))), .iface 142 (.pointer (some (A 9))), .iface 142 (.pointer (some (A 10))), .iface 142 (.pointer (some (A 11))), .iface 142 (.pointer (some (A 12))), .iface 142 (.pointer (some (A 13))), .iface 142 (.pointer (some (A 14))), .iface 142 (.pointer (some (A 15))), .iface 142 (.pointer (some (A 16))), .iface 142 (.pointer (some (A 17))), .iface 142 (.pointer (some (A 18))), .iface 142 (.pointer (some (A 19))), .iface 142 (.pointer (some (A 20)))] 38) := rfl
  rw [← ew]
  clear ew
  generalize w.alloc (.cells (errsC A) 38) = w1 at *
  generalize w.heap.size = G at *
  go_loop [4, 5, 6, 33] (fun f _ _ j => ∃ k : Nat, k ≤ 21 ∧ j = .int .i64 k ∧ f = .int .i64 (if i < k then ((i + 1 : Nat) : Int) else -1)) (fun _ _ _ j => 21 - (intOf j).toNat)
  case atStart => exact ⟨0, by omega, rfl, by rw [if_neg (by omega)]⟩
  case round =>
    obtain ⟨k, hk, rfl, rfl⟩ := hrel
    by_cases hlt : k < 21
    · have c := hB.cell k
      rw [errsC_get A k hlt] at c
      unfold errV at c
      by_cases hki : k = i
      · subst hki
        have e : (if k < k then ((k + 1 : Nat) : Int) else -1) = -1 := if_neg (by omega)
        rw [e]
        clear e
        have hS := Lib.hid (fun W => is_same (A k) W)
        unfold errV at hS
        go_wp2_with (go_at_call 30; refine (hS.out _).mono ?_; rintro e w2 ⟨rfl, rfl⟩)
        go_round
        case rel => exact ⟨k + 1, hlt, by go_num, by rw [if_pos (by omega)]; go_num⟩
        case measure => simp [intOf]; omega
      · have hO := Lib.hid (fun (W : World) (hW : W = w1) => by
          subst hW
          obtain ⟨ca, ta, ha⟩ := hE.out.blk i hi
          obtain ⟨cb, tb, hb⟩ := hE.out.blk k hlt
          exact is_other (A i) (A k) ca cb ta tb W (hE.out.ne i k hi hlt (fun e => hki e.symm)) ha hb)
        unfold errV at hO
        have e : (if i < k then ((i + 1 : Nat) : Int) else -1) = (if i < k + 1 then ((i + 1 : Nat) : Int) else -1) := by
          by_cases h : i < k
          · rw [if_pos h, if_pos (by omega)]
          · rw [if_neg h, if_neg (by omega)]
        have HE := Lib.hid e
        clear e
        generalize (if i < k then ((i + 1 : Nat) : Int) else -1) = y at *
        go_wp2_with (go_at_call 30; refine (hO.out _ rfl).mono ?_; rintro e w2 ⟨rfl, rfl⟩)
        go_round
        case rel => exact ⟨k + 1, hlt, by go_num, by rw [HE.out]⟩
        case measure => simp [intOf]; omega
    · have e : (if i < k then ((i + 1 : Nat) : Int) else -1) = ((i + 1 : Nat) : Int) := if_pos (by omega)
      rw [e]
      clear e
      go_wp2
      go_ret
      exact ⟨rfl, hx⟩

end Go.Proofs.YtgfknlkpdiejgaaGreatDoor
