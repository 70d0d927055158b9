/- trawllaw14.mark, marked, apart as contracts: a tree whose lists lie in blocks of their own. Condition: that; few nodes. -/
import Derived.Test.YthddlhpndaffjaaDoorNodeK
import Derived.Test.YthddlhpndaffjaaDoorExpP
import Derived.Deep.RegionWith
namespace Go.Proofs.YthddlhpndaffjaaDoor
open Go Go.RowKit

mutual
/-- Every node below the head numbered, in the order of the text. -/
def markN : Nd → Int → Nd
  | .mk h s, c => .mk { h with num := c + 1 } (markL s (c + 1))
def markL : List Nd → Int → List Nd
  | [], _ => []
  | n :: r, c => markN n c :: markL r (c + nodesN n)
end
theorem markL_app : ∀ (a b : List Nd) (c : Int), markL (a ++ b) c = markL a c ++ markL b (c + nodesL a)
  | [], b, c => by rw [nodesL, markL]; simp
  | n :: a, b, c => by
    show markL (n :: (a ++ b)) c = _
    rw [markL, markL, markL_app a b, nodesL]
    simp [Int.add_assoc]
theorem markL_len : ∀ (l : List Nd) (c : Int), (markL l c).length = l.length
  | [], c => by rw [markL]
  | n :: r, c => by rw [markL, List.length_cons, List.length_cons, markL_len r]

theorem Keeps.of_set (w : World) (p : Addr) (v : Value) {F : Nat → Prop} (h : F p.block) : Keeps F w (w.setCell p v) := (Keeps.refl F w).setCell (.inr h) v

set_option maxRecDepth 100000 in
set_option maxHeartbeats 8000000 in
theorem mark_any : ∀ (n : Nd) (h' : Hd) (sv : Value) (fp : List Nat) (w : World) (bn : Nat) (c : Int), NdFp w (.mk h' n.subs) sv fp → fp.Nodup → bn ∉ fp → (∀ b ∈ fp, b < w.heap.size) → Blk w bn 3 #[.int .i64 c] → 0 ≤ c → c + nodesL n.subs ≤ 1000000 →
    Calls Tryd.prog 52 #[nodeV h' sv, .pointer (some ⟨bn, 0, none⟩)] w fun r w' => r = .returned (.tuple #[]) ∧ NdFp w' (.mk h' (markL n.subs c)) sv fp ∧ Blk w' bn 3 #[.int .i64 (c + nodesL n.subs)] ∧ Keeps (fun b => b ∈ fp ∨ b = bn) w w' := by
  refine Nd.ind fun hd subs ih h' sv fp w bn c hn hnd hbn hlt hB hc0 hc1 => ?_
  simp only [Nd.subs] at *
  have hsl := hn.ok.shape
  obtain ⟨A, cp, rfl⟩ := hsl
  simp only [Nd.subs] at *
  have IH := Lib.hid ih
  clear ih
  have hlen := nodesL_len subs
  by_cases h0 : subs = []
  · subst h0
    rw [nodesL] at *
    simp only [List.length_nil] at *
    have HN := Lib.hid hn
    clear hn IH
    go_enter Tryd.func52, Tryd.ntmps52
    go_upto_region 1 with (refine wpl_boxNd rfl _ rfl h' _ rfl ?_; intro b w1 hb hx1 eb sb)
    have c5 : w1.cell? ⟨b, 5, none⟩ = some (.slice A 0 cp) := hb.cell 5
    go_wp2
    go_loop [8] (fun i => i = .int .i64 0) (fun _ => 0)
    case atStart => rfl
    case round =>
      subst hrel
      go_wp2
      go_end0
      exact ⟨rfl, by rw [markL]; exact HN.out.keep (fun x hm => Below.block hx1 x (hlt x hm)), (by simpa using hB.ext hx1), Keeps.of_ext hx1⟩
  · obtain ⟨g, c', l, he, rfl, hsl, hK⟩ := hn.kids h0
    injection he with e1 e2 e3
    subst e1 e3
    have HS := Lib.hid hsl
    have hll : l.length = subs.length := by rw [HS.out, List.length_map]
    have HLL := Lib.hid hll
    have hgn : g ∉ kidsFp l := (List.nodup_cons.1 hnd).1
    have hkn : (kidsFp l).Nodup := (List.nodup_cons.1 hnd).2
    have hbg : bn ≠ g := fun e => hbn (by simp [e])
    have hbk : bn ∉ kidsFp l := fun e => hbn (by simp [e])
    have hglt : g < w.heap.size := hlt g (by simp)
    have hklt0 := Lib.hid (fun b (hb : b ∈ kidsFp l) => hlt b (by simp [hb]))
    have HN1 := Lib.hid hgn
    have HN2 := Lib.hid hkn
    have HN3 := Lib.hid hbk
    have hbl := hB.lt
    clear hnd hn hlt hsl hll hgn hkn hbk hbn e2
    obtain ⟨F, hF⟩ : ∃ F : Nat → Prop, F = fun b => b ∈ g :: kidsFp l ∨ b = bn := ⟨_, rfl⟩
    have HF := Lib.hid hF
    rw [← hF]
    clear hF
    have hFb : ∀ x, w.heap.size ≤ x → ¬ F x := fun x hx => by
      rw [HF.out]
      rintro (h | rfl)
      · rcases List.mem_cons.1 h with rfl | h
        · omega
        · have := hklt0.out x h; omega
      · omega
    have HFB := Lib.hid hFb
    clear hFb
    go_enter Tryd.func52, Tryd.ntmps52
    go_upto_region 1 with (refine wpl_boxNd rfl _ rfl h' _ rfl ?_; intro b w1 hb hx1 eb sb)
    have c5 : w1.cell? ⟨b, 5, none⟩ = some (.slice (some ⟨g, 0, none⟩) subs.length cp) := hb.cell 5
    have hK1 : KidsAt w1 g l := ⟨fun j x hj => (hK.at_ j x hj).ext hx1, fun x hm => (hK.kid x hm).ext hx1 (fun y hy => hklt0.out y (List.mem_flatMap.2 ⟨x, hm, hy⟩)), by obtain ⟨t, cur, hbk⟩ := hK.blk; exact ⟨t, cur, hbk.ext hx1⟩⟩
    have hB1 := hB.ext hx1
    have hx11 : Keeps F w w1 := Keeps.of_ext hx1
    go_wp2
    clear c5
    go_loopw [8] (fun i wr => ∃ (k : Nat) (lk : List Kid), k ≤ subs.length ∧ i = .int .i64 k ∧ lk.map (·.1) = markL (subs.take k) c ++ subs.drop k ∧ lk.map (·.2) = l.map (·.2) ∧ KidsAt wr g lk ∧ Blk wr bn 3 #[.int .i64 (c + nodesL (subs.take k))] ∧ Blk wr b 27 (nodeA h' (.slice (some ⟨g, 0, none⟩) subs.length cp)) ∧ Keeps F w wr) (fun i _ => subs.length - (intOf i).toNat)
    case atStart => exact ⟨0, l, Nat.zero_le _, rfl, by rw [List.take_zero, markL, List.drop_zero, List.nil_append, HS.out], rfl, hK1, by rw [List.take_zero, nodesL, Int.add_zero]; exact hB1, hb, hx11⟩
    case round =>
      clear hK1 hB1 hx11 hK hB hb hx1
      obtain ⟨k, lk, hk, rfl, hl1, hl2, hK, hB, hb, hx⟩ := hrel
      have HL1 := Lib.hid hl1
      have HL2 := Lib.hid hl2
      clear hl1 hl2
      by_cases hlt : k < subs.length
      · have hlkl : lk.length = subs.length := by have := congrArg List.length HL2.out; rw [List.length_map, List.length_map] at this; rw [this, HLL.out]
        have hkl : lk[k]? = some (subs[k], (lk[k]'(by omega)).2) := by
          have h1 : (lk.map (·.1))[k]? = some subs[k] := by
            rw [HL1.out, List.getElem?_append_right (by rw [markL_len, List.length_take]; omega), markL_len, List.length_take, Nat.min_eq_left (by omega), Nat.sub_self, List.getElem?_drop, Nat.add_zero, List.getElem?_eq_getElem hlt]
          rw [List.getElem?_map, List.getElem?_eq_getElem (by omega)] at h1
          simp only [Option.map_some, Option.some.injEq] at h1
          rw [List.getElem?_eq_getElem (by omega), ← h1]
        have hfk : kidsFp lk = kidsFp l := kidsFp_snd HL2.out
        generalize (lk[k]'(by omega)).2 = xk at *
        obtain ⟨sv, f⟩ := xk
        have hmem := List.mem_of_getElem? hkl
        have hsub : ∀ y ∈ f, y ∈ kidsFp l := fun y hy => by rw [← hfk]; exact List.mem_flatMap.2 ⟨_, hmem, hy⟩
        have hdis : ∀ j x, j ≠ k → lk[j]? = some x → ∀ y ∈ x.2.2, y ∉ f ∧ y ∈ kidsFp l := fun j x hj hx y hy =>
          ⟨kids_disj (by rw [hfk]; exact HN2.out) hj hx hkl y hy, by rw [← hfk]; exact List.mem_flatMap.2 ⟨x, List.mem_of_getElem? hx, hy⟩⟩
        have hfnd : f.Nodup := kid_nodup (by rw [hfk]; exact HN2.out) hmem
        have hcnt : nodesL (subs.take k) + nodesN subs[k] ≤ nodesL subs := by
          have h1 := nodesL_app (subs.take (k + 1)) (subs.drop (k + 1))
          rw [List.take_append_drop, take_snoc subs k hlt, nodesL_app, nodesL, nodesL] at h1
          have := nodesL_pos (subs.drop (k + 1))
          omega
        have hp0 := nodesL_pos (subs.take k)
        have hM1 : markL (subs.take (k + 1)) c = markL (subs.take k) c ++ [markN subs[k] (c + nodesL (subs.take k))] := by rw [take_snoc subs k hlt, markL_app, markL, markL]
        have hM2 : nodesL (subs.take (k + 1)) = nodesL (subs.take k) + nodesN subs[k] := by rw [take_snoc subs k hlt, nodesL_app, nodesL, nodesL]; omega
        have hD : subs.drop k = subs[k] :: subs.drop (k + 1) := List.drop_eq_getElem_cons hlt
        have IHk := Lib.hid (IH.out subs[k] (List.getElem_mem hlt))
        have HM1 := Lib.hid hM1
        have HM2 := Lib.hid hM2
        have HD := Lib.hid hD
        have HKL := Lib.hid hkl
        have HFK := Lib.hid hfk
        have HSUB := Lib.hid hsub
        have HDIS := Lib.hid hdis
        have HFND := Lib.hid hfnd
        have hgf : g ∉ f := fun e => HN1.out (hsub g e)
        have hbf : bn ∉ f := fun e => HN3.out (hsub bn e)
        have HGF := Lib.hid hgf
        have HBF := Lib.hid hbf
        have hksz := hx.size
        clear hM1 hM2 hD hkl hfk hsub hdis hfnd hgf hbf hmem IH
        have hC : c + nodesL (subs.take k) + nodesN subs[k] ≤ 1000000 := by omega
        have hpos := nodesN_pos subs[k]
        generalize nodesL (subs.take k) = nt at *
        generalize hck : c + nt = ck at *
        have HCK := Lib.hid hck
        clear hck
        have hck0 : 0 ≤ ck := by have := HCK.out; omega
        generalize subs[k] = nk at *
        have d1 : (k : Int) < (subs.length : Int) := by omega
        have cb : wr.cell? ⟨bn, 0, none⟩ = some (.int .i64 ck) := hB.cell 0
        have fb := hB.frozen 0
        go_upto_region 4 with fail
        go_cut [] (fun wx => KidsAt wx g lk ∧ Blk wx bn 3 #[.int .i64 (ck + 1)] ∧ Blk wx b 27 (nodeA h' (.slice (some ⟨g, 0, none⟩) subs.length cp)) ∧ Keeps (· = bn) wr wx)
        case first =>
          go_wp2
          go_meet
          case rel =>
            have hks : Keeps (· = bn) wr (wr.setCell ⟨bn, 0, none⟩ (.int .i64 (ck + 1))) := Keeps.of_set _ _ _ rfl
            exact ⟨hK.keeps hks (fun e => hbg e.symm) (fun y hy => by rw [HFK.out] at hy; exact ⟨Nat.lt_of_lt_of_le (hklt0.out y hy) hksz, fun e => HN3.out (e ▸ hy)⟩), hB.set 0 _, hb.keeps hks (by omega), hks⟩
        obtain ⟨hK4, hB4, hb4, hk4⟩ := hcut
        generalize wc = w4 at *
        clear cb fb hK hB hb
        obtain ⟨hk', sk⟩ := nk
        have hklt : k < lk.length := by rw [hlkl]; exact hlt
        have hw4 := hk4.size
        have c5 : w4.cell? ⟨b, 5, none⟩ = some (.slice (some ⟨g, 0, none⟩) subs.length cp) := hb4.cell 5
        have cb : w4.cell? ⟨bn, 0, none⟩ = some (.int .i64 (ck + 1)) := hB4.cell 0
        have k6 : w4.cell? ⟨g, k * 10 + 6, none⟩ = some (.int .i64 hk'.num) := hK4.at_ k _ HKL.out 6 (by omega)
        have f6 : w4.frozen? ⟨g, k * 10 + 6, none⟩ = false := by obtain ⟨t, cur, hbk⟩ := hK4.blk; exact hbk.frozen _
        go_upto_region 5 with fail
        go_cut [] (fun wx => KidsAt wx g (lk.set k (.mk { hk' with num := ck + 1 } sk, sv, f)) ∧ Blk wx bn 3 #[.int .i64 (ck + 1)] ∧ Blk wx b 27 (nodeA h' (.slice (some ⟨g, 0, none⟩) subs.length cp)) ∧ Keeps (· = g) w4 wx)
        case first =>
          go_region
          go_wp2
          all_goals
            go_meet
            case rel =>
              have hks : Keeps (· = g) w4 (w4.setCell ⟨g, k * 10 + 6, none⟩ (.int .i64 (ck + 1))).drew := (Keeps.of_set (F := (· = g)) _ _ _ rfl).drew
              refine ⟨?_, hB4.keeps hks hbg, hb4.keeps hks (by omega), hks⟩
              have h1 := hK4.num HKL.out (by rw [HFK.out]; exact HN1.out) (ck + 1)
              exact ⟨h1.at_, fun x hx => (h1.kid x hx).keep (fun _ _ => rfl), h1.blk⟩
        obtain ⟨hK5, hB5, hb5, hk5⟩ := hcut
        generalize wc = w5 at *
        clear k6 f6 cb c5 hb4 hB4
        have hw5 := hk5.size
        have c5 : w5.cell? ⟨b, 5, none⟩ = some (.slice (some ⟨g, 0, none⟩) subs.length cp) := hb5.cell 5
        have hkl5 : (lk.set k (.mk { hk' with num := ck + 1 } sk, sv, f))[k]? = some (.mk { hk' with num := ck + 1 } sk, sv, f) := List.getElem?_set_self hklt
        have hat5 := hK5.at_ k _ hkl5
        have hkid5 := hK5.kid _ (List.mem_of_getElem? hkl5)
        have hIH := IHk.out { hk' with num := ck + 1 } sv f w5 bn (ck + 1) hkid5 HFND.out HBF.out (fun y hy => by have := hklt0.out y (HSUB.out y hy); omega) hB5 (by omega) (by rw [nodesN] at hC; simp only; omega)
        have hIH' := Lib.hid hIH
        clear hIH hkid5 IHk
        go_wp2_with (first
          | (refine wpl_loadNd rfl _ rfl g (k * 10) { hk' with num := ck + 1 } sv rfl hat5 ?_)
          | (go_at_call 52; refine hIH'.out.mono ?_; rintro e w6 ⟨rfl, hn6, hB6, hk6⟩))
        have hw6 := hk6.size
        have hge : ∀ y ∈ kidsFp l, y < w5.heap.size := fun y hy => by have := hklt0.out y hy; omega
        have hK6 := hK5.turn (F := fun y => y ∈ f ∨ y = bn) hkl5 hk6 (fun e => by
          rcases e with e | e
          · exact HGF.out e
          · exact hbg e.symm) (fun y hy => hge y (by rw [kidsFp_set HKL.out, HFK.out] at hy; exact hy)) (fun j x hj hx y hy e => by
            rw [List.getElem?_set_ne (fun e => hj e.symm)] at hx
            have h1 := HDIS.out j x hj hx y hy
            rcases e with e | e
            · exact h1.1 e
            · exact HN3.out (e ▸ h1.2)) hn6 rfl
        rw [List.set_set] at hK6
        have hb6 := hb5.keeps hk6 (fun e => by
          rcases e with e | e
          · have := hklt0.out b (HSUB.out b e); omega
          · omega)
        have hx6 : Keeps F w w6 := by
          refine ((hx.trans hk4 (fun y _ e => ?_)).trans hk5 (fun y _ e => ?_)).trans hk6 (fun y _ e => ?_)
          · rw [HF.out]; exact .inr e
          · rw [HF.out, e]; exact .inl (by simp)
          · rw [HF.out]
            rcases e with e | e
            · exact .inl (List.mem_cons_of_mem _ (HSUB.out y e))
            · exact .inr e
        have hpay : ck + 1 + nodesL sk = c + (nt + nodesN (.mk hk' sk)) := by rw [nodesN]; have := HCK.out; omega
        have HPAY := Lib.hid hpay
        clear hpay hge hn6 hk6 hb5 hB5 hK5 hk5 hat5 c5 hk4 hK4 hx hkl5 hw6 hw5 hw4 hksz
        go_roundw
        case rel =>
          refine ⟨k + 1, _, by omega, by go_num, ?_, ?_, hK6, by rw [HM2.out, ← HPAY.out]; exact hB6, hb6, hx6⟩
          · rw [List.map_set, HL1.out, HM1.out, HD.out, List.set_append_right _ _ (by rw [markL_len, List.length_take]; omega), markL_len, List.length_take, Nat.min_eq_left (by omega), Nat.sub_self, List.set_cons_zero, List.append_assoc]
            rfl
          · rw [List.map_set, ← HL2.out]
            refine List.ext_getElem? fun j => ?_
            rw [List.getElem?_set]
            by_cases hj : k = j
            · subst hj
              rw [if_pos rfl, if_pos (by simpa using hklt), List.getElem?_map, HKL.out]
              rfl
            · rw [if_neg hj]
        case measure => simp [intOf]; omega
      · have hkl : subs.take k = subs := List.take_of_length_le (by omega)
        have hd1 : ¬ (k : Int) < (subs.length : Int) := by omega
        have hdr : subs.drop k = [] := List.drop_of_length_le (by omega)
        rw [hkl, hdr, List.append_nil] at HL1
        rw [hkl] at hB
        clear hkl hdr
        have hlen2 : lk.length = subs.length := by have := congrArg List.length HL2.out; rw [List.length_map, List.length_map] at this; rw [this, HLL.out]
        have hfin := hK.node (c := cp) h'
        rw [HL1.out, hlen2, kidsFp_snd HL2.out] at hfin
        have HFIN := Lib.hid hfin
        clear hfin IH HL1 HL2 hlen2
        go_wp2
        go_end0
        exact ⟨rfl, HFIN.out, hB, hx⟩

end Go.Proofs.YthddlhpndaffjaaDoor
