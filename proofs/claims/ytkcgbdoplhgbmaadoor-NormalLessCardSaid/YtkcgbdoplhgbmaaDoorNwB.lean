/- Lists of trees: several appended; what a new tree's list holds. normal.flat as a contract. Condition: the trees lie in memory; what 'simple' answers. -/
import Derived.Test.YtkcgbdoplhgbmaaDoorNrmC
import Derived.Test.YtkcgbdoplhgbmaaDoorNwA
namespace Go.Proofs.YtkcgbdoplhgbmaaDoor
open Go Go.RowKit

mutual
theorem NdFp.in_ {W : World} {S : Nat → Prop} : ∀ {n : Nd} {sv : Value} {fp : List Nat}, NdFp W n sv fp → (∀ b ∈ fp, S b) → NdIn W S n sv
  | .mk _ subs, sv, fp, h, hs => by
    unfold NdFp at h
    rcases h with ⟨rfl, ⟨A, c, rfl⟩, _⟩ | ⟨g, c, fps, rfl, rfl, _, h⟩
    · exact ⟨A, c, rfl, trivial⟩
    · exact ⟨_, c, rfl, NdsFp.in_ h (hs g (by simp)) (fun b hb => hs b (by simp [hb]))⟩
theorem NdsFp.in_ {W : World} {S : Nat → Prop} : ∀ {l : List Nd} {g k : Nat} {fps : List Nat}, NdsFp W l g k fps → S g → (∀ b ∈ fps, S b) → NdsIn W S l (some ⟨g, 0, none⟩) k
  | [], _, _, _, _, _, _ => trivial
  | n :: r, g, k, fps, h, hg, hs => by
    unfold NdsFp at h
    obtain ⟨f1, f2, sv, rfl, h1, h2, h3⟩ := h
    exact ⟨⟨g, 0, sv, hg, rfl, fun i hi => by rw [Nat.zero_add]; exact h1 i hi, h2.in_ (fun b hb => hs b (by simp [hb]))⟩, h3.in_ hg (fun b hb => hs b (by simp [hb]))⟩
end
theorem NdNew.b {B : Nat} {W : World} {n : Nd} {sv : Value} (h : NdNew B W n sv) : NdB B W n sv := by
  obtain ⟨fp, h1, _, h3⟩ := h
  exact h1.in_ h3
theorem NdsIn.kids {W : World} {S : Nat → Prop} : ∀ {l : List Nd} {A : Option Addr} {k : Nat}, NdsIn W S l A k →
    ∃ l2 : List (Nd × Value), l2.map (·.1) = l ∧ (∀ x ∈ l2, NdIn W S x.1 x.2) ∧ ∀ j x, l2[j]? = some x → ∃ g o, S g ∧ A = some ⟨g, o, none⟩ ∧ NdAt W g (o + (k + j) * 10) x.1.h x.2
  | [], _, _, _ => ⟨[], rfl, (fun _ h => by cases h), fun j x h => by simp at h⟩
  | n :: r, A, k, ⟨⟨g, o, sv, hs, hA, hc, hn⟩, hr⟩ => by
    obtain ⟨l2, h1, h2, h3⟩ := NdsIn.kids hr
    refine ⟨(n, sv) :: l2, by rw [List.map_cons, h1], fun x hx => ?_, fun j x hj => ?_⟩
    · rcases List.mem_cons.1 hx with rfl | hx
      · exact hn
      · exact h2 x hx
    · cases j with
      | zero =>
        simp only [List.getElem?_cons_zero, Option.some.injEq] at hj
        subst hj
        exact ⟨g, o, hs, hA, hc⟩
      | succ j =>
        obtain ⟨g', o', a1, a2, a3⟩ := h3 j x (by simpa using hj)
        refine ⟨g', o', a1, a2, ?_⟩
        rw [show k + (j + 1) = k + 1 + j by omega]
        exact a3
theorem NdIn.kids {W : World} {S : Nat → Prop} {h : Hd} {subs : List Nd} {sv : Value} (hn : NdIn W S (.mk h subs) sv) (h0 : subs ≠ []) :
    ∃ (l2 : List (Nd × Value)) (g o c : Nat), sv = .slice (some ⟨g, o, none⟩) subs.length c ∧ S g ∧ l2.map (·.1) = subs ∧ (∀ x ∈ l2, NdIn W S x.1 x.2) ∧ ∀ j x, l2[j]? = some x → NdAt W g (o + j * 10) x.1.h x.2 := by
  obtain ⟨A, c, rfl, hs⟩ := hn
  obtain ⟨l2, h1, h2, h3⟩ := hs.kids
  have hl : 0 < l2.length := by
    have := congrArg List.length h1
    rw [List.length_map] at this
    have : 0 < subs.length := List.length_pos_iff.2 h0
    omega
  obtain ⟨g, o, a1, rfl, _⟩ := h3 0 l2[0] (List.getElem?_eq_getElem hl)
  refine ⟨l2, g, o, c, rfl, a1, h1, h2, fun j x hj => ?_⟩
  obtain ⟨g', o', _, b2, b3⟩ := h3 j x hj
  simp only [Option.some.injEq, Addr.mk.injEq, and_true] at b2
  obtain ⟨rfl, rfl⟩ := b2
  rwa [Nat.zero_add] at b3

theorem LstB.app {W1 W2 : World} {B C : Nat} {v v' : Value} {l l2 : List (Nd × Value)} (h : LstB W1 B C v l) (hn : ∀ x ∈ l2, NdIn W1 (fun b => C ≤ b ∧ Off W1 v b) x.1 x.2)
    (ho : OwnR W2 B 27 10 v' ((l.map fun x => nodeC x.1.h x.2) ++ (l2.map fun x => nodeC x.1.h x.2))) (hg : W1.grownBy W2 v.ownBlock) (hat : v'.ownBlock = v.ownBlock ∨ v'.ownBlock = some W1.heap.size) : LstB W2 B C v' (l ++ l2) := by
  have hk : ∀ {m : Nd} {sm : Value}, NdIn W1 (fun b => C ≤ b ∧ Off W1 v b) m sm → NdIn W2 (fun b => C ≤ b ∧ Off W2 v' b) m sm := fun hm => hm.keep fun b hb =>
    ⟨sameAt_of_block (hg.block b hb.2.1 (fun e => hb.2.2 e.symm)), hb.1, Nat.lt_of_lt_of_le hb.2.1 hg.size, fun e => by
      rcases hat with h4 | h4
      · exact hb.2.2 (h4 ▸ e)
      · rw [h4] at e; injection e with e; have := hb.2.1; omega⟩
  refine ⟨by rw [List.map_append]; exact ho, fun x hm => ?_⟩
  rcases List.mem_append.1 hm with hm | hm
  · exact hk (h.kid x hm)
  · exact hk (hn x hm)
theorem kids_wide (l : List (Nd × Value)) : Wide 10 (l.map fun x => nodeC x.1.h x.2) := fun r hr => by
  obtain ⟨x, _, rfl⟩ := List.mem_map.1 hr
  rfl

section
variable {ops : Array Oper} {rest : List Oper} {o : Oper} {a : Act} {w : World} {Q : Exit → Act → World → Prop}
/-- 'list = append(list, nodes...)' where the call made the list. -/
theorem wpl_appsB (hgd : o.guard = none) (s x : Operand) (ho : o.op = .call { callee := .builtin .append, args := #[s, x], argTypes := #[25, 25] })
    (B C : Nat) (v : Value) (l l2 : List (Nd × Value)) (g k c m : Nat) (hs : a.eval s = v) (hx : a.eval x = .slice (some ⟨g, k, none⟩) m c) (hm : l2.length = m) (hL : LstB w B C v l) (hB : B ≤ w.heap.size)
    (hn : ∀ y ∈ l2, NdIn w (fun b => C ≤ b ∧ Off w v b) y.1 y.2) (hc : ∀ j y, l2[j]? = some y → NdAt w g (k + j * 10) y.1.h y.2) (hl : l.length + l2.length ≤ 1000000000)
    (hK : ∀ v' w1, LstB w1 B C v' (l ++ l2) → w.grownBy w1 v.ownBlock → wpList Tryd.prog ops Q rest (a.put o.dst v') w1) : wpList Tryd.prog ops Q (o :: rest) a w := by
  subst hm
  obtain ⟨i, hi0, hz0, hz1, hz2⟩ := info_parts info_ndZ
  have hw2 := kids_wide l2
  have hfl := flat_len hw2
  rw [List.length_map] at hfl
  have hrl : (l.map fun x => nodeC x.1.h x.2).length = l.length := List.length_map ..
  refine wpList_append_own_at w hgd s x 25 ho B 27 i _ 10 96 Tryd.underlying25 hi0 hz0 hz1 hz2 rfl (by decide) v _ _ hs hL.own.1 ⟨g, k, none⟩ l2.length c _ hx hfl ?_ ?_ (by rw [hrl]; simp only [maxLen]; omega) (by rw [hrl]; omega) hB ?_
  · intro j u hj
    have hjl : j < l2.length * 10 := by rw [← hfl]; exact (List.getElem?_eq_some_iff.1 hj).1
    have hd : j / 10 < l2.length := by omega
    have e : j = j / 10 * 10 + j % 10 := by omega
    have hr : (l2.map fun x => nodeC x.1.h x.2)[j / 10]? = some (nodeC l2[j / 10].1.h l2[j / 10].2) := by rw [List.getElem?_map, List.getElem?_eq_getElem hd]; rfl
    rw [e, flat_get hw2 (j / 10) (j % 10) _ hr (by omega)] at hj
    have := hc (j / 10) _ (List.getElem?_eq_getElem hd) (j % 10) (by omega)
    rw [hj] at this
    have ej : j / 10 * 10 + j % 10 = j := by omega
    have ea : (⟨g, k, none⟩ : Addr).add (j / 10 * 10 + j % 10) = ⟨g, k + j / 10 * 10 + j % 10, none⟩ := by rw [Addr.add_mid, Nat.add_assoc]
    rw [ej] at ea
    rw [ea]
    exact this
  · intro u hu
    obtain ⟨r, hr, hu⟩ := List.mem_flatten.1 hu
    obtain ⟨y, hy, rfl⟩ := List.mem_map.1 hr
    exact nodeC_one (hn y hy).ok.sl u hu
  · intro v' w1 h1 h2 _ h3
    refine hK v' w1 (hL.app hn ⟨?_, fun r hr => ?_⟩ h2 h3) h2
    · rw [List.flatten_append]
      simpa using h1
    · rcases List.mem_append.1 hr with hr | hr
      · exact hL.own.2 r hr
      · exact hw2 r hr
end

/-- What a call that makes a list of trees answers: they may share memory among themselves. -/
def RetRow (w : World) (ns : List Nd) (r : Ending) (w' : World) : Prop := ∃ v, r = .returned v ∧ NdB w.heap.size w' (.mk (hdV 0) ns) v ∧ Ext w w'

theorem flatL_one (k : Int) (n : Nd) : flatL k [n] = partsN k (simpN n) := by rw [flatL, flatL, List.append_nil]

set_option maxRecDepth 100000 in
set_option maxHeartbeats 8000000 in
theorem nflat_any (hd : Hd) (subs : List Nd) (sv : Value) (w : World) (hn : NdOk w (.mk hd subs) sv) (hk56 : hd.kind = 5 ∨ hd.kind = 6) (hcnt : cntL subs ≤ 1000000) (hok : ∀ n ∈ subs, okN n)
    (IH : ∀ n ∈ subs, ∀ sv w, NdOk w n sv → Calls Tryd.prog 83 #[nodeV n.h sv] w (RetNd w (simpN n))) :
    Calls Tryd.prog 106 #[nodeV hd sv] w (RetRow w (flatL hd.kind subs)) := by
  obtain ⟨A, c, rfl⟩ := hn.shape
  have HN := Lib.hid hn
  have HOK := Lib.hid hok
  have HIH := Lib.hid IH
  have HLEN := Lib.hid (fun k : Nat => (by
    have h1 := cnt_flat hd.kind (subs.take k) (fun n hm => cnt_simp n (hok n (List.mem_of_mem_take hm)))
    have h2 := cntL_take subs k
    have h3 := cntL_len (flatL hd.kind (subs.take k))
    omega : (flatL hd.kind (subs.take k)).length ≤ 1000000))
  have hsl : subs.length ≤ 1000000 := by have := cntL_len subs; omega
  have HK56 := Lib.hid hk56
  clear hn IH hok hcnt hk56
  simp only [Nd.subs] at *
  go_enter Tryd.func106, Tryd.ntmps106
  go_upto_region 1 with (refine wpl_boxNd rfl _ rfl hd _ rfl ?_; intro b w1 hb hx1 eb sb)
  have c0 : w1.cell? ⟨b, 0, none⟩ = some (.int .i64 hd.kind) := hb.cell 0
  have c5 : w1.cell? ⟨b, 5, none⟩ = some (.slice A subs.length c) := hb.cell 5
  have hL0 : LstB w1 w.heap.size w.heap.size (.slice none 0 0) [] := LstB.nil _ _ _
  clear hb
  generalize hd.kind = kind at *
  have hx11 : Ext w1 w1 := Ext.refl w1
  go_wp2
  go_loopw [3, 9] (fun v i wr => ∃ (k : Nat) (l : List (Nd × Value)), k ≤ subs.length ∧ i = .int .i64 k ∧ l.map (·.1) = flatL kind (subs.take k) ∧ LstB wr w1.heap.size w.heap.size v l ∧ Ext w1 wr) (fun _ i _ => subs.length - (intOf i).toNat)
  case atStart => exact ⟨0, [], Nat.zero_le _, rfl, by rw [List.take_zero, flatL]; rfl, LstB.nil _ _ _, hx11⟩
  case round =>
    clear hL0 hx11
    obtain ⟨k, l, hk, rfl, hl, hL, hx⟩ := hrel
    have HL := Lib.hid hl
    have hxw := hx1.trans hx
    by_cases hlt : k < subs.length
    · obtain ⟨g0, o0, sv, rfl, hat, hok⟩ := HN.out.get k hlt
      replace hat := hat.ext hxw
      have IHk := Lib.hid (fun w' (hw' : Ext wr w') => HIH.out subs[k] (List.getElem_mem hlt) sv w' (NdOk.ext (hxw.trans hw') _ _ hok))
      have hll : l.length ≤ 1000000 := by have := congrArg List.length hl; rw [List.length_map] at this; rw [this]; exact HLEN.out k
      have HP := Lib.hid (show (l.map (·.1)) ++ partsN kind (simpN subs[k]) = flatL kind (subs.take (k + 1)) by rw [HL.out, take_snoc subs k hlt, flatL_app, flatL_one])
      have HP2 := Lib.hid (show (l ++ []).length + (partsN kind (simpN subs[k])).length ≤ 1000000 by
        have h1 := HLEN.out (k + 1)
        rw [← HP.out, List.length_append, List.length_map] at h1
        simpa using h1)
      have HSO := Lib.hid (ok_simp subs[k] (HOK.out _ (List.getElem_mem hlt)))
      have hsl := hok.sl
      clear HIH HN HL HOK HLEN hok hl
      generalize simpN subs[k] = sn at *
      generalize subs[k] = nk at *
      have d1 : (k : Int) < (subs.length : Int) := by omega
      go_upto_region 6 with (first
        | (refine wpl_loadNd rfl _ rfl g0 (o0 + k * 10) nk.h sv rfl hat ?_)
        | (refine wpl_allocNd rfl rfl ?_; intro s w4 hs hx4 es ss)
        | (refine wpl_storeNd rfl _ _ rfl rfl s nk.h _ sv _ rfl rfl hsl hs ?_; intro w5 hs5 hk5; have hx5 := hx4.keep1 hk5 es)
        | (refine wpl_loadNd rfl _ rfl s 0 nk.h sv rfl hs5.nd ?_)
        | (go_at_call 83; refine (IHk.out _ hx5).mono ?_; rintro e w6 ⟨sv6, rfl, hn6, hx6⟩)
        | (refine wpl_storeNd rfl _ _ rfl rfl s sn.h _ sv6 _ rfl rfl hn6.ok.sl (hs5.ext hx6) ?_; intro w7 hs7 hk7))
      have hsw := hs5.lt
      have hx7 := (hx5.trans hx6).keep1 hk7 es
      have hn7 := (hn6.keep1 hk7 hsw).b
      have h5s := hx5.size
      have hk0 : w7.cell? ⟨s, 0, none⟩ = some (.int .i64 sn.h.kind) := hs7.cell 0
      have hk5' : w7.cell? ⟨s, 5, none⟩ = some sv6 := hs7.cell 5
      have c07 := (hx.trans hx7).cell c0
      have hL7 := hL.ext hx7
      have hnear : NdIn w7 (fun b => w.heap.size ≤ b ∧ Off w7 u3 b) sn sv6 := NdB.near hn7 (by have := hx1.size; have := hx.size; omega) (fun i hi => by have := hL.ownB i hi; omega)
      have hB7 : w1.heap.size ≤ w7.heap.size := by have := hx.size; have := hx7.size; omega
      clear hs hx4 es ss hs5 hk5 hx5 hn6 hx6 hk7 hsw hn7 hat hL h5s
      by_cases hke : sn.h.kind = kind
      · have hne : sn.subs ≠ [] := by
          have h1 := HSO.out
          obtain ⟨sh, ss⟩ := sn
          have h2 := formed_two (form_at h1.1).1 (by rw [show sh.kind = kind from hke]; exact HK56.out)
          intro h0
          rw [show ss = [] from h0] at h2
          simp at h2
        have HPE := Lib.hid (show partsN kind sn = sn.subs by unfold partsN; rw [if_pos hke])
        rw [HPE.out] at HP HP2
        obtain ⟨sh, ss⟩ := sn
        obtain ⟨l2, g, o, c2, rfl, hg2, hl2, hkid, hcell⟩ := NdIn.kids hnear hne
        simp only [Nd.h, Nd.subs] at *
        have hl2l : l2.length = ss.length := by rw [← hl2, List.length_map]
        have hll2 : l.length + l2.length ≤ 1000000000 := by have := HP2.out; simp at this; omega
        have HM := Lib.hid hl2
        rw [hke] at hk0
        clear HP2 hl2 hne hke HSO hnear hs7
        go_wp2_with (refine wpl_appsB rfl _ _ rfl w1.heap.size w.heap.size u3 l l2 g o c2 ss.length rfl rfl hl2l hL7 hB7 hkid hcell hll2 ?_; intro v8 w8 hL8 hg8)
        have hx8 := ext_grown_B (hx.trans hx7) hL7 (Nat.le_refl _) hg8
        go_roundw
        case rel => exact ⟨k + 1, l ++ l2, by omega, by go_num, by rw [List.map_append, HM.out, HP.out], hL8, hx8⟩
        case measure => simp [intOf]; omega
      · have n1 : (sn.h.kind == kind) = false := by rw [beq_eq_false_iff_ne]; exact hke
        have HPE := Lib.hid (show partsN kind sn = [sn] by unfold partsN; rw [if_neg hke])
        rw [HPE.out] at HP
        have hll2 : l.length ≤ 1000000000 := by omega
        clear HP2 hke HSO
        go_wp2_with (first
          | (refine wpl_loadNd rfl _ rfl s 0 sn.h sv6 rfl hs7.nd ?_)
          | (refine wpl_oneNd rfl _ rfl sn.h sv6 rfl ?_; intro g8 w8 hb8 hx8 e8 s8)
          | (refine wpl_appB rfl _ _ rfl w1.heap.size w.heap.size u3 l sn sv6 g8 1 rfl rfl (hL7.ext hx8) (by have := hx8.size; omega) (ndIn_ext hnear hx8) hb8 hll2 ?_; intro v9 w9 hL9 hg9))
        have hx9 := ext_grown_B ((hx.trans hx7).trans hx8) (hL7.ext hx8) (Nat.le_refl _) hg9
        go_roundw
        case rel => exact ⟨k + 1, l ++ [(sn, sv6)], by omega, by go_num, by rw [List.map_append]; exact HP.out, hL9, hx9⟩
        case measure => simp [intOf]; omega
    · have hkl : subs.take k = subs := List.take_of_length_le (by omega)
      rw [hkl] at HL
      have hd1 : ¬ (k : Int) < (subs.length : Int) := by omega
      have HB := Lib.hid (hL.node (by have := hx1.size; omega) (hdV 0))
      rw [HL.out] at HB
      clear HN HIH HOK HLEN hL
      go_wp2
      go_ret
      exact ⟨_, rfl, HB.out, hxw⟩

end Go.Proofs.YtkcgbdoplhgbmaaDoor
