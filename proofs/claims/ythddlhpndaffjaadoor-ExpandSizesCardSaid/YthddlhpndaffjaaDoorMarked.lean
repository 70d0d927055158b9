/- trawllaw14.marked as a contract: a numbered tree is numbered. Condition: its lists lie in blocks of their own, it has few nodes. -/
import Derived.Test.YthddlhpndaffjaaDoorMark
import Derived.Test.YthddlhpndaffjaaDoorNodeS
namespace Go.Proofs.YthddlhpndaffjaaDoor
open Go Go.RowKit

theorem markL_get {l : List Nd} {c : Int} {k : Nat} (hk : k < l.length) : (markL l c)[k]? = some (markN l[k] (c + nodesL (l.take k))) := by
  have e : l = l.take k ++ l[k] :: l.drop (k + 1) := by rw [← List.drop_eq_getElem_cons hk, List.take_append_drop]
  have h1 : markL l c = markL (l.take k) c ++ markL (l[k] :: l.drop (k + 1)) (c + nodesL (l.take k)) := by
    rw [← markL_app, ← e]
  rw [h1, List.getElem?_append_right (by rw [markL_len, List.length_take]; omega), markL_len, List.length_take, Nat.min_eq_left (by omega), Nat.sub_self, markL]
  rfl

set_option maxRecDepth 100000 in
set_option maxHeartbeats 8000000 in
theorem marked_any : ∀ (n : Nd) (h' : Hd) (sv : Value) (fp : List Nat) (w : World) (bn : Nat) (c : Int), NdFp w (.mk h' (markL n.subs c)) sv fp → bn ∉ fp → (∀ b ∈ fp, b < w.heap.size) → Blk w bn 3 #[.int .i64 c] → 0 ≤ c → c + nodesL n.subs ≤ 1000000 →
    Calls Tryd.prog 53 #[nodeV h' sv, .pointer (some ⟨bn, 0, none⟩)] w fun r w' => r = .returned (.bool true) ∧ Blk w' bn 3 #[.int .i64 (c + nodesL n.subs)] ∧ Keeps (· = bn) w w' := by
  refine Nd.ind fun hd subs ih h' sv fp w bn c hn hbn hlt hB hc0 hc1 => ?_
  simp only [Nd.subs] at *
  obtain ⟨A, cp, rfl⟩ := hn.ok.shape
  simp only [Nd.subs, markL_len] at *
  have IH := Lib.hid ih
  clear ih
  have hlen := nodesL_len subs
  have hK0 : ∀ k (hk : k < subs.length), ∃ g sv f, A = some ⟨g, 0, none⟩ ∧ NdAt w g (k * 10) (markN subs[k] (c + nodesL (subs.take k))).h sv ∧ NdFp w (markN subs[k] (c + nodesL (subs.take k))) sv f ∧ g < w.heap.size ∧ g ≠ bn ∧ bn ∉ f ∧ ∀ b ∈ f, b < w.heap.size := by
    intro k hk
    obtain ⟨g, c', l, he, rfl, hsl, hK⟩ := hn.kids (fun e => by
      have := congrArg List.length e
      rw [markL_len, List.length_nil] at this
      omega)
    injection he with e1 e2 e3
    have h1 := markL_get (c := c) hk
    rw [hsl, List.getElem?_map] at h1
    obtain ⟨x, hx, h2⟩ := Option.map_eq_some_iff.1 h1
    have hm := List.mem_of_getElem? hx
    rw [← h2]
    exact ⟨g, x.2.1, x.2.2, e1, hK.at_ k x hx, hK.kid x hm, hlt g (by simp), fun e => hbn (by simp [e]), fun e => hbn (List.mem_cons_of_mem _ (kid_sub hm bn e)), fun b hb => hlt b (List.mem_cons_of_mem _ (kid_sub hm b hb))⟩
  have HK := Lib.hid hK0
  have hbl := hB.lt
  clear hn hbn hlt hK0
  go_enter Tryd.func53, Tryd.ntmps53
  go_upto_region 1 with (refine wpl_boxNd rfl _ rfl h' _ rfl ?_; intro b w1 hb hx1 eb sb)
  have c5 : w1.cell? ⟨b, 5, none⟩ = some (.slice A subs.length cp) := hb.cell 5
  have hB1 := hB.ext hx1
  have hx11 : Keeps (· = bn) w w1 := Keeps.of_ext hx1
  go_wp2
  clear c5
  go_loopw [9] (fun i wr => ∃ (k : Nat), k ≤ subs.length ∧ i = .int .i64 k ∧ Blk wr bn 3 #[.int .i64 (c + nodesL (subs.take k))] ∧ Blk wr b 27 (nodeA h' (.slice A subs.length cp)) ∧ Keeps (· = bn) w wr) (fun i _ => subs.length - (intOf i).toNat)
  case atStart => exact ⟨0, Nat.zero_le _, rfl, by rw [List.take_zero, nodesL, Int.add_zero]; exact hB1, hb, hx11⟩
  case round =>
    clear hB1 hx11 hB hb hx1
    obtain ⟨k, hk, rfl, hB, hb, hx⟩ := hrel
    by_cases hlt : k < subs.length
    · obtain ⟨g, sv, f, rfl, hat, hfp, hgl, hgb, hbf, hfl⟩ := HK.out k hlt
      have hcnt : nodesL (subs.take k) + nodesN subs[k] ≤ nodesL subs := by
        have h1 := nodesL_app (subs.take (k + 1)) (subs.drop (k + 1))
        rw [List.take_append_drop, take_snoc subs k hlt, nodesL_app, nodesL, nodesL] at h1
        have := nodesL_pos (subs.drop (k + 1))
        omega
      have hp0 := nodesL_pos (subs.take k)
      have HM2 := Lib.hid (show nodesL (subs.take (k + 1)) = nodesL (subs.take k) + nodesN subs[k] by rw [take_snoc subs k hlt, nodesL_app, nodesL, nodesL]; omega)
      have IHk := Lib.hid (IH.out subs[k] (List.getElem_mem hlt))
      have hpos := nodesN_pos subs[k]
      have HBF := Lib.hid hbf
      have HFL := Lib.hid hfl
      have hksz := hx.size
      clear IH HK hbf hfl
      have hC : c + nodesL (subs.take k) + nodesN subs[k] ≤ 1000000 := by omega
      generalize nodesL (subs.take k) = nt at *
      generalize hck : c + nt = ck at *
      have HCK := Lib.hid hck
      clear hck
      have hck0 : 0 ≤ ck := by have := HCK.out; omega
      generalize subs[k] = nk at *
      have d1 : (k : Int) < (subs.length : Int) := by omega
      have cb : wr.cell? ⟨bn, 0, none⟩ = some (.int .i64 ck) := hB.cell 0
      have fb := hB.frozen 0
      go_upto_region 4 with fail
      go_cut [] (fun wx => Blk wx bn 3 #[.int .i64 (ck + 1)] ∧ Blk wx b 27 (nodeA h' (.slice (some ⟨g, 0, none⟩) subs.length cp)) ∧ Keeps (· = bn) wr wx)
      case first =>
        go_wp2
        go_meet
        case rel =>
          have hks : Keeps (· = bn) wr (wr.setCell ⟨bn, 0, none⟩ (.int .i64 (ck + 1))) := Keeps.of_set _ _ _ rfl
          exact ⟨hB.set 0 _, hb.keeps hks (by omega), hks⟩
      obtain ⟨hB4, hb4, hk4⟩ := hcut
      generalize wc = w4 at *
      clear cb fb hB hb
      obtain ⟨hk', sk⟩ := nk
      have hkw := hx.trans hk4 (fun _ _ e => e)
      have hw4 := hk4.size
      have hat4 := hat.keeps hkw hgb
      have hfp4 := hfp.keep (W' := w4) (fun y hy => hkw.block y (HFL.out y hy) (fun e => HBF.out (e ▸ hy)))
      have hmk : markN (.mk hk' sk) ck = .mk { hk' with num := ck + 1 } (markL sk (ck + 1)) := by rw [markN]
      rw [hmk] at hat4 hfp4
      have c5 : w4.cell? ⟨b, 5, none⟩ = some (.slice (some ⟨g, 0, none⟩) subs.length cp) := hb4.cell 5
      have cb : w4.cell? ⟨bn, 0, none⟩ = some (.int .i64 (ck + 1)) := hB4.cell 0
      have k6 : w4.cell? ⟨g, k * 10 + 6, none⟩ = some (.int .i64 (ck + 1)) := hat4 6 (by omega)
      have hIH := Lib.hid (IHk.out { hk' with num := ck + 1 } sv f w4.drew bn (ck + 1) (hfp4.keep (W' := w4.drew) (fun _ _ => rfl)) HBF.out (fun y hy => by have := HFL.out y hy; show y < w4.heap.size; omega) hB4.drew (by omega) (by rw [nodesN] at hC; simp only; omega))
      have hat4' : NdAt w4.drew g (k * 10) { hk' with num := ck + 1 } sv := fun i hi => hat4 i hi
      clear hmk hat hfp hfp4 IHk hkw
      go_upto_region 5 with fail
      refine wp_region_still_tail 17 (by kernel_rfl) (by kernel_rfl) ?_
      simp only [List.take_succ_cons, List.take_zero, List.drop_succ_cons, List.drop_zero]
      repeat still_step
      refine wpStill_loadNd _ rfl rfl g (k * 10) _ sv rfl hat4' ?_
      repeat still_step
      refine wpStill_nil ?_
      change wpList _ _ _ _ _ w4.drew
      clear cb c5 k6 hat4 hat4'
      go_wp2_with (go_at_call 53; refine hIH.out.mono ?_; rintro e w6 ⟨rfl, hB6, hk6⟩)
      have hpay : ck + 1 + nodesL sk = c + (nt + nodesN (.mk hk' sk)) := by rw [nodesN]; have := HCK.out; omega
      have HPAY := Lib.hid hpay
      have hb6 := (show Blk w4.drew b 27 _ from hb4).keeps hk6 (by omega)
      have hx6 := ((hx.trans hk4 (fun _ _ e => e)).drew).trans hk6 (fun _ _ e => e)
      clear hpay hk6 hb4 hB4 hk4 hx hw4 hksz hIH
      go_roundw
      case rel => exact ⟨k + 1, by omega, by go_num, by rw [HM2.out, ← HPAY.out]; exact hB6, hb6, hx6⟩
      case measure => simp [intOf]; omega
    · have hkl : subs.take k = subs := List.take_of_length_le (by omega)
      have hd1 : ¬ (k : Int) < (subs.length : Int) := by omega
      rw [hkl] at hB
      clear hkl IH HK
      go_wp2
      go_ret
      exact ⟨rfl, hB, hx⟩

set_option maxRecDepth 100000 in
set_option maxHeartbeats 8000000 in
theorem apart_any (n : Nd) (sv : Value) (fp : List Nat) (w : World) (hn : NdFp w n sv fp) (hnd : fp.Nodup) (hlt : ∀ b ∈ fp, b < w.heap.size) (hc : nodesL n.subs ≤ 1000000) :
    Calls Tryd.prog 17 #[nodeV n.h sv] w fun r w' => r = .returned (.bool true) ∧ Keeps (· ∈ fp) w w' := by
  obtain ⟨hd, subs⟩ := n
  simp only [Nd.h, Nd.subs] at *
  have HN := Lib.hid hn
  have HND := Lib.hid hnd
  have HLT := Lib.hid hlt
  have hsl := hn.ok.sl
  clear hn hnd hlt
  go_enter Tryd.func17, Tryd.ntmps17
  go_upto_region 1 with (refine wpl_boxNd rfl _ rfl hd _ rfl ?_; intro b w1 hb hx1 eb sb)
  have hx2 : Ext w1 (w1.alloc (.cells #[.int .i64 0] 3)) := (Ext.refl w1).alloc _
  have hB2 : Blk (w1.alloc (.cells #[.int .i64 0] 3)) w1.heap.size 3 #[.int .i64 0] := Blk.new w1 _ _
  go_upto_region 2 with fail
  have hp1 : w1.heap.size < (w1.alloc (.cells #[.int .i64 0] 3)).heap.size := by simp
  generalize w1.alloc (.cells #[.int .i64 0] 3) = w2 at *
  generalize hp : w1.heap.size = p at *
  clear hp
  have h1 := hx1.size
  have hx12 := hx1.trans hx2
  have hfp2 := Lib.hid (HN.out.ext hx12 HLT.out)
  have hm := Lib.hid (mark_any (.mk hd subs) hd sv fp w2 p 0 hfp2.out HND.out (fun e => by have := HLT.out p e; omega) (fun y hy => by have := HLT.out y hy; have := hx12.size; omega) hB2 (by omega) (by simp only [Nd.subs]; omega))
  simp only [Nd.subs] at hm
  go_upto_region 3 with (first
    | (refine wpl_loadNd rfl _ rfl b 0 hd _ rfl (hb.ext hx2).nd ?_)
    | (go_at_call 52; refine hm.out.mono ?_; rintro e w3 ⟨rfl, hn3, hB3, hk3⟩))
  have hb3 := (hb.ext hx2).keeps hk3 (fun e => by
    rcases e with e | e
    · have := HLT.out b e; omega
    · omega)
  have h12 := hx12.size
  have h3 := hk3.size
  have hx4 : Ext w3 (w3.alloc (.cells #[.int .i64 0] 3)) := (Ext.refl w3).alloc _
  have hB4 : Blk (w3.alloc (.cells #[.int .i64 0] 3)) w3.heap.size 3 #[.int .i64 0] := Blk.new w3 _ _
  have hN3 := Lib.hid hn3
  clear hm hn3 hfp2
  go_upto_region 4 with fail
  generalize w3.alloc (.cells #[.int .i64 0] 3) = w4 at *
  generalize hq : w3.heap.size = q at *
  have hm2 := Lib.hid (marked_any (.mk hd subs) hd sv fp w4 q 0 (hN3.out.ext hx4 (fun y hy => by have := HLT.out y hy; omega)) (fun e => by have := HLT.out q e; omega) (fun y hy => by have := HLT.out y hy; have := hx4.size; omega) hB4 (by omega) (by simp only [Nd.subs]; omega))
  simp only [Nd.subs] at hm2
  have hb4 := hb3.ext hx4
  have hB34 := hB3.ext hx4
  go_wp2_with (first
    | (refine wpl_loadNd rfl _ rfl b 0 hd _ rfl hb4.nd ?_)
    | (go_at_call 53; refine hm2.out.mono ?_; rintro e w5 ⟨rfl, hB5, hk5⟩; have cq : w5.cell? ⟨q, 0, none⟩ = some (.int .i64 (0 + nodesL subs)) := hB5.cell 0; have cp : w5.cell? ⟨p, 0, none⟩ = some (.int .i64 (0 + nodesL subs)) := (hB34.keeps hk5 (by omega)).cell 0))
  go_ret
  have hx4' : Keeps (· ∈ fp) w4 w4 := Keeps.refl _ _
  refine ⟨by simp, ((Keeps.of_ext (F := (· ∈ fp)) hx12).trans hk3 (fun y hy e => ?_)).trans ((Keeps.of_ext (F := (· ∈ fp)) hx4).trans hk5 (fun y hy e => ?_)) (fun y hy e => e)⟩
  · rcases e with e | e
    · exact e
    · omega
  · omega

end Go.Proofs.YthddlhpndaffjaaDoor
