/- trawlnum.CopyNode as a contract: the tree as new memory. Condition: the tree lies in memory, its lists are short. trawlnum.Spoil and trawllaw14.spoilFirst as contracts: a tree whose lists lie in blocks of their own; only those turn. Condition: that; its lists are short. -/
import Derived.Test.YthddlhpndaffjaaDoorCopy
import Derived.Test.YthddlhpndaffjaaDoorNodeK
import Derived.Test.YthddlhpndaffjaaDoorExpP
import Derived.Deep.LoopGhost
namespace Go.Proofs.YthddlhpndaffjaaDoor
open Go Go.RowKit

set_option maxRecDepth 100000 in
set_option maxHeartbeats 8000000 in
theorem copyNode_any : ∀ (n : Nd) (sv : Value) (w : World), NdOk w n sv → smallN n →
    Calls Tryd.prog 18 #[nodeV n.h sv] w (RetNd w n) := by
  refine Nd.ind fun hd subs ih sv w hn hsm => ?_
  obtain ⟨A, c, rfl⟩ := hn.shape
  obtain ⟨hlen, hsm⟩ := hsm
  have IH := Lib.hid (fun n hm sv w hn => ih n hm sv w hn (smallL_mem hsm n hm))
  have HN := Lib.hid hn
  clear ih hsm hn
  simp only [Nd.h, Nd.subs] at *
  go_enter Tryd.func18, Tryd.ntmps18
  go_upto_region 1 with (first
    | (refine wpl_boxNd rfl _ rfl hd _ rfl ?_; intro b w1 hb hx1 eb sb)
    | (refine wpl_allocNd rfl rfl ?_; intro z w2 hz hx2 ez sz))
  have hx12 := hx1.trans hx2
  have hb2 := hb.ext hx2
  have c5 : w2.cell? ⟨b, 5, none⟩ = some (.slice A subs.length c) := hb2.cell 5
  have hbz : b < z := by omega
  have hwz : w.heap.size ≤ z := by omega
  have hwb : w.heap.size ≤ b := eb
  clear hb hx1 hx2 eb sb
  have hsz12 := hx12.size
  have hL0 : LstFp w2 w2.heap.size 27 (.slice none 0 0) [] := LstFp.nil _ _ _
  have hx22 : Ext w2 w2 := Ext.refl w2
  go_wp2
  go_loopw [3, 9] (fun v i wr => ∃ (k : Nat) (l : List Kid), k ≤ subs.length ∧ i = .int .i64 k ∧ l.map (·.1) = subs.take k ∧ LstFp wr w2.heap.size 27 v l ∧ Ext w2 wr) (fun _ i _ => subs.length - (intOf i).toNat)
  case atStart => exact ⟨0, [], Nat.zero_le _, rfl, rfl, hL0, hx22⟩
  case round =>
    clear hL0 hx22
    obtain ⟨k, l, hk, rfl, hl, hL, hx⟩ := hrel
    have HL := Lib.hid hl
    clear hl
    by_cases hlt : k < subs.length
    · obtain ⟨g0, o0, sv, rfl, hat, hok⟩ := HN.out.get k hlt
      have hxw := hx12.trans hx
      replace hat := hat.ext hxw
      have IHk := Lib.hid (fun w' (hw' : Ext wr w') => IH.out subs[k] (List.getElem_mem hlt) sv w' (NdOk.ext (hxw.trans hw') _ _ hok))
      have HM := Lib.hid (show (l.map (·.1)) ++ [subs[k]] = subs.take (k + 1) by rw [HL.out, take_snoc subs k hlt])
      have hll : l.length = k := by have := congrArg List.length HL.out; simp at this; omega
      have hll2 : l.length ≤ 1000000000 := by omega
      clear IH HN HL hll
      have hsh := hok.sl
      generalize subs[k] = nk at *
      have d1 : (k : Int) < (subs.length : Int) := by omega
      go_wp2_with (first
        | (refine wpl_loadNd rfl _ rfl g0 (o0 + k * 10) nk.h sv rfl hat ?_)
        | (refine wpl_allocNd rfl rfl ?_; intro s w4 hs hx4 es ss)
        | (refine wpl_storeNd rfl _ _ rfl rfl s nk.h _ sv _ rfl rfl hsh hs ?_; intro w5 hs5 hk5; have hx5 := hx4.keep1 hk5 es)
        | (refine wpl_loadNd rfl _ rfl s 0 nk.h sv rfl hs5.nd ?_)
        | (go_at_call 18; refine (IHk.out _ hx5).mono ?_; rintro e w6 ⟨sv6, rfl, hn6, hx6⟩)
        | (refine wpl_oneNd rfl _ rfl nk.h sv6 rfl ?_; intro g7 w7 hb7 hx7 e7 s7)
        | (refine wpl_appFp rfl _ _ rfl w2.heap.size u3 l nk sv6 g7 1 wr rfl rfl hL ((hx5.trans hx6).trans hx7) hx.size ((hn6.ext hx7).mono hx5.size) hb7 hll2 ?_; intro v8 w8 hL8 hx78 hg8))
      have hx8 : Ext w2 w8 := ext_grown_lst (hx.trans hx78) hL (Nat.le_refl _) hg8
      obtain ⟨f, hL8⟩ := hL8
      clear hL hx hat hs hx4 es ss hs5 hk5 hx5 hn6 hx6 hb7 hx7 hg8 hx78 hok e7 s7 hsh hxw
      go_roundw
      case rel => exact ⟨k + 1, l ++ [(nk, sv6, f)], by omega, by go_num, by simpa using HM.out, hL8, hx8⟩
      case measure => simp [intOf]; omega
    · have hkl : subs.take k = subs := List.take_of_length_le (by omega)
      rw [hkl] at HL
      have hb3 := hb2.ext hx
      have hz3 := hz.ext hx
      have HN2 := Lib.hid (hL.node hd)
      rw [HL.out] at HN2
      have hd1 : ¬ (k : Int) < (subs.length : Int) := by omega
      obtain ⟨A', c', rfl, _⟩ := hL.len
      clear hkl IH HN HL c5 hL
      go_wp2_with (first
        | (refine wpl_storeSubs rfl _ _ rfl rfl b hd _ _ rfl rfl (isSl_mk _ _ _) hb3 ?_; intro w4 hb4 hk4)
        | (refine wpl_loadNd rfl _ rfl b 0 hd _ rfl hb4.nd ?_)
        | (refine wpl_storeNd rfl _ _ rfl rfl z hd _ _ _ rfl rfl (isSl_mk _ _ _) (hz3.keep1 hk4 (by omega)) ?_; intro w5 hz5 hk5))
      have hsz := hx.size
      exact ret_nd rfl rfl rfl hz5 ⟨.slice A' l.length c', rfl, ((HN2.out.keep1 hk4 (by omega)).keep1 hk5 (by omega)).mono (by omega), ((hx12.trans hx).keep1 hk4 (by omega)).keep1 hk5 (by omega)⟩

end Go.Proofs.YthddlhpndaffjaaDoor

namespace Go.Proofs.YthddlhpndaffjaaDoor
open Go Go.RowKit

theorem blk_setCells {g : Nat} {t : TypeId} : ∀ (vs : List Value) (o : Nat) (w : World) (cur : Array Value), Blk w g t cur →
    ∃ cur', Blk (w.setCells g o vs) g t cur' ∧ cur'.size = cur.size ∧ ∀ i, (i < o ∨ o + vs.length ≤ i) → cur'[i]? = cur[i]?
  | [], o, w, cur, h => ⟨cur, h, rfl, fun _ _ => rfl⟩
  | v :: r, o, w, cur, h => by
    obtain ⟨cur', h1, h2, h3⟩ := blk_setCells r (o + 1) _ _ (h.set o v)
    refine ⟨cur', h1, by rw [h2, Array.size_setIfInBounds], fun i hi => ?_⟩
    simp only [List.length_cons] at hi
    rw [h3 i (by omega), Array.getElem?_setIfInBounds_ne (by omega)]
theorem keeps_setCells {g : Nat} : ∀ (vs : List Value) (o : Nat) (w : World), Keeps (· = g) w (w.setCells g o vs)
  | [], _, w => Keeps.refl _ w
  | v :: r, o, w => ((Keeps.refl (· = g) w).setCell (p := ⟨g, o, none⟩) (.inr rfl) v).trans (keeps_setCells r (o + 1) _) (fun _ _ h => h)
section
variable {ops : Array Oper} {rest : List Oper} {o : Oper} {a : Act} {w : World} {Q : Exit → Act → World → Prop}
/-- The store of a whole node into a block known whole. -/
theorem wpl_setNdB (hgd : o.guard = none) (x y : Operand) (ho : o.op = .store 27 x y) (hd : o.dst = none) (g k : Nat) (h : Hd) (sv : Value) (hx : a.eval x = .pointer (some ⟨g, k, none⟩)) (hy : a.eval y = nodeV h sv) (hs : isSl sv)
    (t : TypeId) (cur : Array Value) (hB : Blk w g t cur) (hle : k + 10 ≤ cur.size)
    (hK : ∀ w1, (∃ cur', Blk w1 g t cur' ∧ cur'.size = cur.size ∧ ∀ i, (i < k ∨ k + 10 ≤ i) → cur'[i]? = cur[i]?) → Keeps (· = g) w w1 → wpList Tryd.prog ops Q rest a w1) : wpList Tryd.prog ops Q (o :: rest) a w := by
  have hpa : a.put o.dst undef = a := by rw [hd]; rfl
  rw [← hpa] at hK
  exact wpList_store_mid hgd 27 x y ho g k (nodeA h sv) hx hy (fun i hi => ⟨by rw [hB.cell, Array.getElem?_eq_getElem (by rw [nodeA_size] at hi; omega)]; rfl, hB.frozen _⟩) (info_ndA h sv) (nodeA_one hs) (hK _ (blk_setCells _ k w cur hB) (keeps_setCells _ _ _))
end

set_option maxRecDepth 100000 in
set_option maxHeartbeats 8000000 in
theorem spoil_any : ∀ (n : Nd) (h' : Hd) (sv : Value) (fp : List Nat) (w : World), NdFp w (.mk h' n.subs) sv fp → fp.Nodup → (∀ b ∈ fp, b < w.heap.size) → smallN n →
    Calls Tryd.prog 24 #[nodeV h' sv] w fun r w' => r = .returned (.tuple #[]) ∧ Keeps (· ∈ fp) w w' := by
  refine Nd.ind fun hd subs ih h' sv fp w hn hnd hlt hsm => ?_
  simp only [Nd.subs] at *
  obtain ⟨A, cp, rfl⟩ := hn.ok.shape
  simp only [Nd.subs] at *
  obtain ⟨hlen, hsm⟩ := hsm
  have IH := Lib.hid (fun n hm h' sv fp w a b c => ih n hm h' sv fp w a b c (smallL_mem hsm n hm))
  clear ih hsm
  by_cases h0 : subs = []
  · subst h0
    simp only [List.length_nil] at *
    clear hn IH hnd hlt
    go_enter Tryd.func24, Tryd.ntmps24
    go_upto_region 1 with (refine wpl_boxNd rfl _ rfl h' _ rfl ?_; intro b w1 hb hx1 eb sb)
    have c5 : w1.cell? ⟨b, 5, none⟩ = some (.slice A 0 cp) := hb.cell 5
    go_wp2
    go_loop [6] (fun i => i = .int .i64 0) (fun _ => 0)
    case atStart => rfl
    case round =>
      subst hrel
      go_wp2
      go_end0
      exact ⟨rfl, Keeps.of_ext hx1⟩
  · obtain ⟨g, c', l, he, rfl, hsl, hK⟩ := hn.kids h0
    injection he with e1 e2 e3
    subst e1 e3
    have HS := Lib.hid hsl
    have hll : l.length = subs.length := by rw [HS.out, List.length_map]
    have HLL := Lib.hid hll
    have hgn : g ∉ kidsFp l := (List.nodup_cons.1 hnd).1
    have hkn : (kidsFp l).Nodup := (List.nodup_cons.1 hnd).2
    have hglt : g < w.heap.size := hlt g (by simp)
    have hklt0 := Lib.hid (fun b (hb : b ∈ kidsFp l) => hlt b (by simp [hb]))
    have HN1 := Lib.hid hgn
    have HN2 := Lib.hid hkn
    clear hnd hn hlt hsl hll hgn hkn e2
    obtain ⟨F, hF⟩ : ∃ F : Nat → Prop, F = fun b => b ∈ g :: kidsFp l := ⟨_, rfl⟩
    have HF := Lib.hid hF
    rw [← hF]
    clear hF
    go_enter Tryd.func24, Tryd.ntmps24
    go_upto_region 1 with (refine wpl_boxNd rfl _ rfl h' _ rfl ?_; intro b w1 hb hx1 eb sb)
    have c5 : w1.cell? ⟨b, 5, none⟩ = some (.slice (some ⟨g, 0, none⟩) subs.length cp) := hb.cell 5
    have hK1 : ∀ j x, 0 ≤ j → l[j]? = some x → NdAt w1 g (j * 10) x.1.h x.2.1 ∧ NdFp w1 x.1 x.2.1 x.2.2 := fun j x _ hj => ⟨(hK.at_ j x hj).ext hx1, (hK.kid x (List.mem_of_getElem? hj)).ext hx1 (fun y hy => hklt0.out y (List.mem_flatMap.2 ⟨x, List.mem_of_getElem? hj, hy⟩))⟩
    obtain ⟨t, cur, hB⟩ := hK.blk
    have hcs : subs.length * 10 ≤ cur.size := by
      have hp : 0 < subs.length := List.length_pos_iff.2 h0
      have h1 := hK.at_ (subs.length - 1) _ (List.getElem?_eq_getElem (by rw [HLL.out]; omega)) 9 (by omega)
      rw [hB.cell] at h1
      have h2 := (Array.getElem?_eq_some_iff.1 (h1.trans rfl)).1
      omega
    have HC := Lib.hid (show ∃ cur', Blk w1 g t cur' ∧ cur'.size = cur.size from ⟨cur, hB.ext hx1, rfl⟩)
    have HCS := Lib.hid hcs
    have hx11 : Keeps F w w1 := Keeps.of_ext hx1
    clear hK hB hcs h0
    generalize cur.size = cz at *
    go_wp2
    clear c5
    go_loopw [6] (fun i wr => ∃ (k : Nat), k ≤ subs.length ∧ i = .int .i64 k ∧ (∀ j x, k ≤ j → l[j]? = some x → NdAt wr g (j * 10) x.1.h x.2.1 ∧ NdFp wr x.1 x.2.1 x.2.2) ∧ (∃ cur', Blk wr g t cur' ∧ cur'.size = cz) ∧ Blk wr b 27 (nodeA h' (.slice (some ⟨g, 0, none⟩) subs.length cp)) ∧ Keeps F w wr) (fun i _ => subs.length - (intOf i).toNat)
    case atStart => exact ⟨0, Nat.zero_le _, rfl, hK1, HC.out, hb, hx11⟩
    case round =>
      clear hK1 hx11 hb hx1 HC
      obtain ⟨k, hk, rfl, hK, hB, hb, hx⟩ := hrel
      have HK := Lib.hid hK
      have HB := Lib.hid hB
      clear hK hB
      by_cases hlt : k < subs.length
      · obtain ⟨nk, sv, f, hkl⟩ : ∃ nk sv f, l[k]? = some (nk, sv, f) := by
          rw [List.getElem?_eq_getElem (by rw [HLL.out]; exact hlt)]
          exact ⟨_, _, _, rfl⟩
        have hmem := List.mem_of_getElem? hkl
        have hsub : ∀ y ∈ f, y ∈ kidsFp l := fun y hy => List.mem_flatMap.2 ⟨_, hmem, hy⟩
        have hnm : nk ∈ subs := by rw [HS.out]; exact List.mem_map.2 ⟨_, hmem, rfl⟩
        obtain ⟨hat, hfp⟩ := HK.out k _ (Nat.le_refl _) hkl
        have hfnd : f.Nodup := kid_nodup HN2.out hmem
        have hksz := hx.size
        have hgf : g ∉ f := fun e => HN1.out (hsub g e)
        have IHk := Lib.hid (IH.out nk hnm nk.h sv f wr (by obtain ⟨a, b⟩ := nk; exact hfp) hfnd (fun y hy => Nat.lt_of_lt_of_le (hklt0.out y (hsub y hy)) hksz))
        have HSUB := Lib.hid hsub
        have HGF := Lib.hid hgf
        have HKL := Lib.hid hkl
        clear IH hfp hfnd hnm hmem hsub hgf hkl
        simp only at hat
        have c5 : wr.cell? ⟨b, 5, none⟩ = some (.slice (some ⟨g, 0, none⟩) subs.length cp) := hb.cell 5
        have d1 : (k : Int) < (subs.length : Int) := by omega
        go_upto_region 5 with (first
          | (refine wpl_loadNd rfl _ rfl g (k * 10) nk.h sv rfl hat ?_)
          | (go_at_call 24; refine IHk.out.mono ?_; rintro e w6 ⟨rfl, hk6⟩))
        have hb6 := hb.keeps hk6 (fun e => by have := hklt0.out b (HSUB.out b e); omega)
        obtain ⟨cur6, hB6, hc6⟩ := HB.out
        replace hB6 := hB6.keeps hk6 HGF.out
        clear c5
        have c5 : w6.cell? ⟨b, 5, none⟩ = some (.slice (some ⟨g, 0, none⟩) subs.length cp) := hb6.cell 5
        have hle : k * 10 + 10 ≤ cur6.size := by have := HCS.out; omega
        go_wp2_with (refine wpl_setNdB rfl _ _ rfl rfl g (k * 10) ⟨77, fun _ => false, k, 0, 0, false⟩ (.slice none 0 0) rfl (node_lit _ _ _ _ _ _) (isSl_mk _ _ _) t cur6 hB6 hle ?_; intro w7 hB7 hk7)
        obtain ⟨cur7, hB7, hs7, hg7⟩ := hB7
        have HG7 := Lib.hid hg7
        have HG6 := Lib.hid hc6
        have HG8 := Lib.hid hs7
        have h6 := hk6.size
        have hx7 : Keeps F w w7 := (hx.trans hk6 (fun y _ e => by rw [HF.out]; exact List.mem_cons_of_mem _ (HSUB.out y e))).trans hk7 (fun y _ e => by rw [HF.out, e]; simp)
        have hb7 := hb6.keeps hk7 (by omega)
        clear hg7 hs7 hc6 c5 hb6 hb hx
        go_roundw
        case rel =>
          refine ⟨k + 1, by omega, by go_num, fun j x hj hjx => ?_, ⟨cur7, hB7, by rw [HG8.out, HG6.out]⟩, hb7, hx7⟩
          obtain ⟨h1, h2⟩ := HK.out j x (by omega) hjx
          have hxm := List.mem_of_getElem? hjx
          have hdis := kids_disj HN2.out (show j ≠ k by omega) hjx HKL.out
          refine ⟨fun i hi => ?_, ?_⟩
          · have h3 := (h1.keeps hk6 HGF.out) i hi
            rw [hB6.cell] at h3
            rw [hB7.cell, HG7.out _ (by omega), h3]
          · refine (h2.keep (fun y hy => hk6.block y (Nat.lt_of_lt_of_le (hklt0.out y (List.mem_flatMap.2 ⟨x, hxm, hy⟩)) hksz) (hdis y hy))).keep (fun y hy => hk7.block y (by have := hklt0.out y (List.mem_flatMap.2 ⟨x, hxm, hy⟩); omega) (fun e => ?_))
            exact HN1.out (e ▸ List.mem_flatMap.2 ⟨x, hxm, hy⟩)
        case measure => simp [intOf]; omega
      · have hd1 : ¬ (k : Int) < (subs.length : Int) := by omega
        clear IH HK HB
        go_wp2
        go_end0
        exact ⟨rfl, hx⟩

/-- spoilFirst: on the way down only the tree's own lists turn. -/
def SpF (w : World) (fp : List Nat) (r : Ending) (w' : World) : Prop := r = .returned (.tuple #[]) ∧ Keeps (· ∈ fp) w w'
def SpI (w : World) (fp : List Nat) (k : Nat) (p : Value) (wr : World) : Prop :=
  ∃ (m : Nd) (h' : Hd) (s : Value) (f : List Nat) (g o : Nat), p = .pointer (some ⟨g, o, none⟩) ∧ NdAt wr g o h' s ∧ NdFp wr (.mk h' m.subs) s f ∧ f.Nodup ∧ (∀ b ∈ f, b ∈ fp ∧ b < w.heap.size) ∧ g ∉ f ∧ smallN m ∧ f.length ≤ k ∧ Keeps (· ∈ fp) w wr
set_option maxRecDepth 100000 in
set_option maxHeartbeats 8000000 in
theorem spoilFirst_any (n : Nd) (sv : Value) (fp : List Nat) (w : World) (z : Nat) (hn : NdFp w n sv fp) (hnd : fp.Nodup) (hlt : ∀ b ∈ fp, b < w.heap.size) (hz : Blk w z 27 (nodeA n.h sv)) (hzf : z ∉ fp) (hsm : smallN n) :
    Calls Tryd.prog 25 #[.pointer (some ⟨z, 0, none⟩)] w (SpF w fp) := by
  have HI : SpI w fp fp.length (.pointer (some ⟨z, 0, none⟩)) w :=
    ⟨n, n.h, sv, fp, z, 0, rfl, hz.nd, (by obtain ⟨a, b⟩ := n; exact hn), hnd, fun b hb => ⟨hb, hlt b hb⟩, hzf, hsm, Nat.le_refl _, Keeps.refl _ _⟩
  clear hn hnd hlt hz hzf hsm
  go_enter Tryd.func25, Tryd.ntmps25
  go_wp2
  go_loopg [0] fp.length (fun k p wr => SpI w fp k p wr)
  case atStart => exact HI
  case round =>
    clear HI
    obtain ⟨m, h', s, f, g, o, rfl, hat, hfp, hnd, hF, hgf, hsm, hfk, hx⟩ := hrel
    obtain ⟨hm, subs⟩ := m
    simp only [Nd.subs] at hfp
    obtain ⟨hlen, hsm⟩ := hsm
    have c5 : wr.cell? ⟨g, o + 5, none⟩ = some s := hat 5 (by omega)
    by_cases h0 : subs = []
    · subst h0
      obtain ⟨A, cp, rfl⟩ := hfp.ok.shape
      simp only [Nd.subs, List.length_nil] at c5
      clear hat hfp hF hgf hsm hnd hfk hlen
      have HX := Lib.hid hx
      clear hx
      go_wp2
      go_end0
      exact ⟨rfl, HX.out⟩
    · obtain ⟨g1, c1, l, rfl, rfl, hsl, hK⟩ := hfp.kids h0
      have hpos : 0 < subs.length := List.length_pos_iff.2 h0
      have hll : l.length = subs.length := by rw [hsl, List.length_map]
      obtain ⟨nk, sv, f1, hkl⟩ : ∃ nk sv f, l[0]? = some (nk, sv, f) := by
        rw [List.getElem?_eq_getElem (by omega)]
        exact ⟨_, _, _, rfl⟩
      have hmem := List.mem_of_getElem? hkl
      have hsub : ∀ y ∈ f1, y ∈ kidsFp l := fun y hy => List.mem_flatMap.2 ⟨_, hmem, hy⟩
      have hnm : nk ∈ subs := by rw [hsl]; exact List.mem_map.2 ⟨_, hmem, rfl⟩
      have hgn : g1 ∉ kidsFp l := (List.nodup_cons.1 hnd).1
      have hgg : g ≠ g1 := fun e => hgf (by simp [e])
      obtain ⟨hk', sk⟩ := nk
      have c6 : wr.cell? ⟨g1, 6, none⟩ = some (.int .i64 hk'.num) := hK.at_ 0 _ hkl 6 (by omega)
      have f6 : wr.frozen? ⟨g1, 6, none⟩ = false := by obtain ⟨t, cur, hb⟩ := hK.blk; exact hb.frozen _
      have hnew := hK.num hkl hgn 5000
      have hz0 : 0 < l.length := by omega
      have HR := Lib.hid (show SpI w fp f1.length (.pointer (some ⟨g1, 0, none⟩)) (wr.setCell ⟨g1, 6, none⟩ (.int .i64 5000)) from
        ⟨.mk hk' sk, { hk' with num := 5000 }, sv, f1, g1, 0, rfl, hnew.at_ 0 _ (List.getElem?_set_self hz0), hnew.kid _ (List.mem_of_getElem? (List.getElem?_set_self hz0)), kid_nodup (List.nodup_cons.1 hnd).2 hmem,
          fun b hb => hF b (List.mem_cons_of_mem _ (hsub b hb)), fun e => hgn (hsub g1 e), smallL_mem hsm _ hnm, Nat.le_refl _, hx.setCell (.inr (hF g1 (by simp)).1) _⟩)
      have HM := Lib.hid (show f1.length < gk by
        have h1 : f1.length ≤ (kidsFp l).length := by
          obtain ⟨a, b, hab⟩ := List.append_of_mem hmem
          rw [hab]
          simp only [kidsFp, List.flatMap_append, List.flatMap_cons, List.length_append]
          omega
        simp only [List.length_cons] at hfk
        omega)
      clear hat hfp hnd hF hgf hsm hfk hx hK hkl hmem hsub hnm hgn hnew hsl hll hz0
      go_wp2
      go_roundg f1.length
      case measure => exact HM.out
      case rel => exact HR.out

end Go.Proofs.YthddlhpndaffjaaDoor
