/- The fixed facts of layer 15's statements; tree.Group, tree.Groups as contracts. Condition: the error values lie where they lie. A list of trees in memory, each in blocks of its own, as a list: one of them turned. No program. trawlnum.CopyNode as a contract: the tree as new memory. Condition: the tree lies in memory, its lists are short. trawlnum.Spoil and trawllaw14.spoilFirst as contracts: a tree whose lists lie in blocks of their own; only those turn. Condition: that; its lists are short. NormalMakes as a walk, its fixed facts. Condition: the tree lies in memory, clean; the error values lie where they lie. -/
import Derived.Test.YtkcgbdoplhgbmaaDoorZNormalMakesAJ
import Derived.Test.YtkcgbdoplhgbmaaDoorNrmI
import Derived.Test.YtkcgbdoplhgbmaaDoorText
import Derived.Test.YtkcgbdoplhgbmaaDoorZNormalMakesAB
import Derived.Test.YtkcgbdoplhgbmaaDoorZNormalMakesAC
import Derived.Test.YtkcgbdoplhgbmaaDoorNodeW
import Derived.Test.YtkcgbdoplhgbmaaDoorCopy
import Derived.Test.YtkcgbdoplhgbmaaDoorExpP
import Derived.Deep.LoopGhost
import Derived.Test.YtkcgbdoplhgbmaaDoorZNormalMakesAE
namespace Go.Proofs.YtkcgbdoplhgbmaaDoor
open Go Go.RowKit

theorem grpA_app : ∀ (a b : List Nd) (x : Int), grpA x (a ++ b) = grpA (grpA x a) b
  | [], b, x => by rw [grpA]; rfl
  | n :: a, b, x => by
    show grpA x (n :: (a ++ b)) = _
    rw [grpA, grpA, grpA_app a b]
theorem grpA_one (n : Nd) (x : Int) : grpA x [n] = Max.max x (grpN n) := by rw [grpA, grpA]

set_option maxRecDepth 100000 in
set_option maxHeartbeats 4000000 in
theorem groups_any : ∀ (n : Nd) (sv : Value) (w : World), NdOk w n sv → smallN n →
    Calls Tryd.prog 27 #[nodeV n.h sv] w fun r w' => r = .returned (.int .i64 (grpN n)) ∧ Ext w w' := by
  refine Nd.ind fun hd subs ih sv w hn hsm => ?_
  obtain ⟨A, c, rfl⟩ := hn.shape
  obtain ⟨hlen, hsm⟩ := hsm
  have IH := Lib.hid (fun n hm sv w hn => ih n hm sv w hn (smallL_mem hsm n hm))
  have HN := Lib.hid hn
  have HP := Lib.hid (by rw [grpN] : grpN (.mk hd subs) = grpA (if hd.kind = 7 then Max.max 0 hd.num else 0) subs)
  clear ih hsm hn
  generalize grpN (.mk hd subs) = res at *
  simp only [Nd.subs] at *
  show Calls _ _ #[nodeV hd _] _ _
  go_enter Tryd.func27, Tryd.ntmps27
  go_upto_region 1 with (refine wpl_boxNd rfl _ rfl hd _ rfl ?_; intro b w1 hb hx1 eb sb)
  have c0 : w1.cell? ⟨b, 0, none⟩ = some (.int .i64 hd.kind) := hb.cell 0
  have c5 : w1.cell? ⟨b, 5, none⟩ = some (.slice A subs.length c) := hb.cell 5
  have c6 : w1.cell? ⟨b, 6, none⟩ = some (.int .i64 hd.num) := hb.cell 6
  clear hb
  generalize hd.kind = kind at *
  generalize hd.num = num at *
  have hx11 : Ext w1 w1 := Ext.refl w1
  go_upto_if 8 with fail
  obtain ⟨g0, hg0⟩ : ∃ g0, g0 = (if kind = 7 then Max.max 0 num else 0) := ⟨_, rfl⟩
  rw [← hg0] at HP
  have HG := Lib.hid hg0
  clear hg0
  go_cut [3, 8] (fun v _ wx => v = .int .i64 g0 ∧ w1 = wx)
  case first =>
    clear HP IH HN
    by_cases k7 : kind = 7
    · have HG2 := Lib.hid (HG.out.trans (if_pos k7))
      subst k7
      rw [max_if] at HG2
      clear HG
      by_cases hp : 0 < num
      · have HG3 := Lib.hid (HG2.out.trans (if_pos hp))
        clear HG2
        go_wp2
        go_meet
        case rel => exact ⟨by rw [HG3.out], rfl⟩
      · have HG3 := Lib.hid (HG2.out.trans (if_neg hp))
        clear HG2
        go_wp2
        go_meet
        case rel => exact ⟨by rw [HG3.out], rfl⟩
    · have HG2 := Lib.hid (HG.out.trans (if_neg k7))
      have n1 : (kind == 7) = false := by rw [beq_eq_false_iff_ne]; exact k7
      clear HG k7
      go_wp2
      go_meet
      case rel => exact ⟨by rw [HG2.out], rfl⟩
  obtain ⟨rfl, rfl⟩ := hcut
  clear c0 c6
  go_wp2
  go_loopw [3, 16] (fun a i wr => ∃ k : Nat, k ≤ subs.length ∧ i = .int .i64 k ∧ a = .int .i64 (grpA g0 (subs.take k)) ∧ Ext w1 wr) (fun _ i _ => subs.length - (intOf i).toNat)
  case atStart => exact ⟨0, Nat.zero_le _, rfl, by rw [List.take_zero, grpA], hx11⟩
  case round =>
    clear hx11
    obtain ⟨k, hk, rfl, rfl, hx⟩ := hrel
    by_cases hlt : k < subs.length
    · obtain ⟨gs, o0, sv, rfl, hat, hok⟩ := HN.out.get k hlt
      have hxw := hx1.trans hx
      replace hat := hat.ext hxw
      have HST := Lib.hid (show grpA g0 (subs.take (k + 1)) = Max.max (grpA g0 (subs.take k)) (grpN subs[k]) by rw [take_snoc subs k hlt, grpA_app, grpA_one])
      have IHk := Lib.hid (fun w' (hw' : Ext wr w') => IH.out subs[k] (List.getElem_mem hlt) sv w' (NdOk.ext (hxw.trans hw') _ _ hok))
      have hsh := hok.sl
      clear IH HN hok
      generalize grpA g0 (subs.take k) = acc at *
      generalize grpN subs[k] = pk at *
      generalize subs[k] = nk at *
      have d1 : (k : Int) < (subs.length : Int) := by omega
      go_wp2_with (first
        | (refine wpl_loadNd rfl _ rfl gs (o0 + k * 10) nk.h sv rfl hat ?_)
        | (refine wpl_allocNd rfl rfl ?_; intro s w4 hs hx4 es ss)
        | (refine wpl_storeNd rfl _ _ rfl rfl s nk.h _ sv _ rfl rfl hsh hs ?_; intro w5 hs5 hk5; have hx5 := hx4.keep1 hk5 es)
        | (refine wpl_loadNd rfl _ rfl s 0 nk.h sv rfl hs5.nd ?_)
        | (go_at_call 27; refine (IHk.out _ hx5).mono ?_; rintro e w6 ⟨rfl, hx6⟩))
      go_roundw
      case rel => exact ⟨k + 1, by omega, by go_num, by rw [HST.out, max_if], hx.trans (hx5.trans hx6)⟩
      case measure => simp [intOf]; omega
    · have hkl : subs.take k = subs := List.take_of_length_le (by omega)
      rw [hkl]
      have hd1 : ¬ (k : Int) < (subs.length : Int) := by omega
      clear IH HN hkl
      go_wp2
      go_ret
      exact ⟨by rw [HP.out]; rfl, hx1.trans hx⟩

set_option maxRecDepth 100000 in
set_option maxHeartbeats 4000000 in
theorem group_any (num : Int) (n : Nd) (sv : Value) (w : World) (hn : NdOk w n sv) (hsm : smallN n) :
    Calls Tryd.prog 57 #[.int .i64 num, nodeV n.h sv] w (RetNd w (.mk ⟨7, noS, num, 0, 0, false⟩ [n])) := by
  have HC := Lib.hid (fun W (hW : Ext w W) => copy_any n sv W (NdOk.ext hW _ _ hn) hsm)
  have hsl := hn.sl
  clear hn hsm
  go_enter Tryd.func57, Tryd.ntmps57
  go_wp2_with (first
    | (refine wpl_boxNd rfl _ rfl n.h _ rfl ?_; intro b w1 hb hx1 eb sb)
    | (refine wpl_allocNd rfl rfl ?_; intro z w2 hz hx2 ez sz)
    | (refine wpl_loadNd rfl _ rfl b 0 n.h sv rfl (hb.ext hx2).nd ?_)
    | (go_at_call 59; refine (HC.out _ (hx1.trans hx2)).mono ?_; rintro e w6 ⟨sv6, rfl, hn6, hx6⟩)
    | (refine wpl_oneNd rfl _ rfl n.h sv6 rfl ?_; intro g7 w7 hb7 hx7 e7 s7)
    | (refine wpl_storeNd rfl _ _ rfl rfl z ⟨7, noS, num, 0, 0, false⟩ _ (.slice (some ⟨g7, 0, none⟩) 1 1) _ rfl (node_lit _ _ _ _ _ _) (isSl_mk _ _ _) ((hz.ext hx6).ext hx7) ?_; intro w8 hz8 hk8))
  have h1 := hx1.size
  have h2 := hx2.size
  have h6 := hx6.size
  exact ret_nd rfl rfl rfl hz8 ⟨_, rfl, ((NdNew.one hn6 hx7 hb7 e7 h6 _ 1).keep1 hk8 sz).mono (by omega), ((hx1.trans hx2).trans (hx6.trans hx7)).keep1 hk8 (by omega)⟩

/-! ### a* from 2 to 5 times -/
def starA : Nd := .mk ⟨8, noS, 0, 0, -1, false⟩ [leafN 97]
def rep25 : Nd := .mk ⟨8, noS, 0, 2, 5, false⟩ [starA]
theorem leaf_zero : zeroS (fun x => x == 97) = false := by
  cases h : zeroS (fun x => x == 97)
  · rfl
  · have := zero_clean h (fun b hb => by simp; omega)
    have h2 := congrFun this 97
    simp [noS] at h2
theorem leaf_form : formB (leafN 97) = true := by rw [leafN, formB, formL]; simp [formedB]
theorem leaf_cl : clN (leafN 97) := ⟨fun b hb => by simp; omega, trivial⟩
theorem star_form : formB starA = true := by
  rw [starA, formB, formL, formL, leaf_form]
  simp [formedB, zeroS_no]
theorem rep25_form : formB rep25 = true := by
  rw [rep25, formB, formL, formL, star_form]
  simp [formedB, zeroS_no]
theorem star_cl : clN starA := ⟨clS_no, leaf_cl, trivial⟩
theorem rep25_cl : clN rep25 := ⟨clS_no, star_cl, trivial⟩
theorem leaf_free : freeN (leafN 97) = true := by rw [leafN, freeN, freeL]; rfl
theorem star_free : freeN starA = true := by rw [starA, freeN, freeL, freeL, leaf_free]; rfl
theorem rep25_free : freeN rep25 = true := by rw [rep25, freeN, freeL, freeL, star_free]; rfl
theorem leaf_simp : simpN (leafN 97) = leafN 97 := by rw [leafN, simpN, if_neg (by decide), if_neg (by decide), if_neg (by decide)]
theorem star_simp : simpN starA = starA := by
  rw [starA, simpN, if_neg (by decide), if_neg (by decide), if_pos rfl, simpL, simpL, leaf_simp]
  show repO _ (leafN 97) = _
  have hn : nthB (leafN 97) = false := by
    show (decide _ && zeroS (fun x => x == 97)) = false
    rw [leaf_zero, Bool.and_false]
  unfold repO
  rw [if_neg (by decide), if_neg (by rw [hn]; decide), if_neg (by decide)]
theorem normN_free {n : Nd} (h : freeN n = true) : normN n = simpN n := by obtain ⟨a, b⟩ := n; rw [normN, if_pos h]
theorem rep25_norm : normN rep25 = starA := by
  rw [normN_free rep25_free, rep25, simpN, if_neg (by decide), if_neg (by decide), if_pos rfl, simpL, simpL, star_simp]
  show repO _ starA = _
  have hn : nthB starA = false := rfl
  unfold repO
  rw [if_neg (by decide), if_neg (by rw [hn]; decide), if_pos (.inr (by decide))]

end Go.Proofs.YtkcgbdoplhgbmaaDoor

namespace Go.Proofs.YtkcgbdoplhgbmaaDoor
open Go Go.RowKit

structure KidsAt (W : World) (g : Nat) (l : List Kid) : Prop where
  at_ : ∀ j x, l[j]? = some x → NdAt W g (j * 10) x.1.h x.2.1
  kid : ∀ x ∈ l, NdFp W x.1 x.2.1 x.2.2
  blk : ∃ t cur, Blk W g t cur
theorem ndsFp_kids {W : World} {g : Nat} : ∀ (subs : List Nd) (k : Nat) (fps : List Nat), NdsFp W subs g k fps →
    ∃ l : List Kid, subs = l.map (·.1) ∧ fps = kidsFp l ∧ (∀ j x, l[j]? = some x → NdAt W g ((k + j) * 10) x.1.h x.2.1) ∧ ∀ x ∈ l, NdFp W x.1 x.2.1 x.2.2
  | [], k, fps, h => by
    unfold NdsFp at h
    exact ⟨[], rfl, h, (fun j x hj => by simp at hj), (fun x hx => by cases hx)⟩
  | n :: r, k, fps, h => by
    unfold NdsFp at h
    obtain ⟨f1, f2, sv, rfl, h1, h2, h3⟩ := h
    obtain ⟨l, rfl, rfl, h4, h5⟩ := ndsFp_kids r (k + 1) f2 h3
    refine ⟨(n, sv, f1) :: l, rfl, rfl, fun j x hj => ?_, fun x hx => ?_⟩
    · cases j with
      | zero =>
        simp only [List.getElem?_cons_zero, Option.some.injEq] at hj
        subst hj
        exact h1
      | succ j =>
        rw [show k + (j + 1) = k + 1 + j by omega]
        exact h4 j x (by simpa using hj)
    · rcases List.mem_cons.1 hx with rfl | hx
      · exact h2
      · exact h5 x hx
theorem NdFp.kids {W : World} {h : Hd} {subs : List Nd} {sv : Value} {fp : List Nat} (hn : NdFp W (.mk h subs) sv fp) (hne : subs ≠ []) :
    ∃ g c l, sv = .slice (some ⟨g, 0, none⟩) subs.length c ∧ fp = g :: kidsFp l ∧ subs = l.map (·.1) ∧ KidsAt W g l := by
  unfold NdFp at hn
  rcases hn with ⟨h0, _⟩ | ⟨g, c, fps, rfl, rfl, hb, hs⟩
  · exact absurd h0 hne
  · obtain ⟨l, rfl, rfl, h1, h2⟩ := ndsFp_kids _ _ _ hs
    exact ⟨g, c, l, rfl, rfl, rfl, fun j x hj => by have := h1 j x hj; rwa [Nat.zero_add] at this, h2, hb⟩
theorem KidsAt.node {W : World} {g c : Nat} {l : List Kid} (hk : KidsAt W g l) (h : Hd) : NdFp W (.mk h (l.map (·.1))) (.slice (some ⟨g, 0, none⟩) l.length c) (g :: kidsFp l) := by
  unfold NdFp
  refine .inr ⟨g, c, kidsFp l, by simp, rfl, hk.blk, ndsFp_of l 0 (fun j x hj i hi => ?_) hk.kid⟩
  rw [Nat.zero_add]
  exact hk.at_ j x hj i hi
theorem kids_disj : ∀ {l : List Kid}, (kidsFp l).Nodup → ∀ {j k : Nat} {x y : Kid}, j ≠ k → l[j]? = some x → l[k]? = some y → ∀ b ∈ x.2.2, b ∉ y.2.2
  | [], _, j, k, x, y, _, hj, _ => by simp at hj
  | a :: l, hn, j, k, x, y, hne, hj, hk => by
    have hn' : (a.2.2 ++ kidsFp l).Nodup := hn
    rw [List.nodup_append] at hn'
    have hmem : ∀ {i : Nat} {z : Kid}, l[i]? = some z → ∀ b ∈ z.2.2, b ∈ kidsFp l := fun hi b hb => List.mem_flatMap.2 ⟨_, List.mem_of_getElem? hi, hb⟩
    cases j with
    | zero =>
      cases k with
      | zero => exact absurd rfl hne
      | succ k =>
        simp only [List.getElem?_cons_zero, Option.some.injEq] at hj
        subst hj
        exact fun b hb hb2 => hn'.2.2 b hb b (hmem (by simpa using hk) b hb2) rfl
    | succ j =>
      cases k with
      | zero =>
        simp only [List.getElem?_cons_zero, Option.some.injEq] at hk
        subst hk
        exact fun b hb hb2 => hn'.2.2 b hb2 b (hmem (by simpa using hj) b hb) rfl
      | succ k => exact kids_disj (j := j) (k := k) hn'.2.1 (fun e => hne (by rw [e])) (by simpa using hj) (by simpa using hk)
/-- One of them turned, in a world that keeps all else. -/
theorem KidsAt.turn {W W' : World} {F : Nat → Prop} {g k : Nat} {l : List Kid} {n n' : Nd} {sv : Value} {f : List Nat} (h : KidsAt W g l) (hk : l[k]? = some (n, sv, f)) (hF : Keeps F W W') (hg : ¬ F g)
    (hlt : ∀ b ∈ kidsFp l, b < W.heap.size) (hoth : ∀ j x, j ≠ k → l[j]? = some x → ∀ b ∈ x.2.2, ¬ F b) (hn : NdFp W' n' sv f) (hh : n'.h = n.h) : KidsAt W' g (l.set k (n', sv, f)) := by
  have hkl : k < l.length := (List.getElem?_eq_some_iff.1 hk).1
  have hmem : ∀ {i : Nat} {z : Kid}, l[i]? = some z → ∀ b ∈ z.2.2, b ∈ kidsFp l := fun hi b hb => List.mem_flatMap.2 ⟨_, List.mem_of_getElem? hi, hb⟩
  refine ⟨fun j x hj => ?_, fun x hx => ?_, ?_⟩
  · by_cases hjk : j = k
    · subst hjk
      rw [List.getElem?_set_self hkl, Option.some.injEq] at hj
      subst hj
      have := (h.at_ j _ hk).keeps hF hg
      simpa [hh] using this
    · rw [List.getElem?_set_ne (fun e => hjk e.symm)] at hj
      exact (h.at_ j x hj).keeps hF hg
  · obtain ⟨j, hj⟩ := List.getElem?_of_mem hx
    by_cases hjk : j = k
    · subst hjk
      rw [List.getElem?_set_self hkl, Option.some.injEq] at hj
      subst hj
      exact hn
    · rw [List.getElem?_set_ne (fun e => hjk e.symm)] at hj
      exact (h.kid x (List.mem_of_getElem? hj)).keep fun b hb => hF.block b (hlt b (hmem hj b hb)) (hoth j x hjk hj b hb)
  · obtain ⟨t, cur, hb⟩ := h.blk
    exact ⟨t, cur, hb.keeps hF hg⟩
/-- The number in one's head turned. -/
theorem KidsAt.num {W : World} {g k : Nat} {l : List Kid} {hd : Hd} {s : List Nd} {sv : Value} {f : List Nat} (h : KidsAt W g l) (hk : l[k]? = some (.mk hd s, sv, f)) (hg : g ∉ kidsFp l) (m : Int) :
    KidsAt (W.setCell ⟨g, k * 10 + 6, none⟩ (.int .i64 m)) g (l.set k (.mk { hd with num := m } s, sv, f)) := by
  have hkl : k < l.length := (List.getElem?_eq_some_iff.1 hk).1
  have hmem : ∀ {i : Nat} {z : Kid}, l[i]? = some z → ∀ b ∈ z.2.2, b ∈ kidsFp l := fun hi b hb => List.mem_flatMap.2 ⟨_, List.mem_of_getElem? hi, hb⟩
  obtain ⟨t, cur, hb⟩ := h.blk
  have far : ∀ b ∈ kidsFp l, SameAt W (W.setCell ⟨g, k * 10 + 6, none⟩ (.int .i64 m)) b := fun b hb => Below.heap_setCell W _ _ b (fun e => hg (by simpa [e] using hb))
  refine ⟨fun j x hj => ?_, fun x hx => ?_, ⟨t, _, hb.set _ _⟩⟩
  · have cellOf : ∀ i, (W.setCell ⟨g, k * 10 + 6, none⟩ (.int .i64 m)).cell? ⟨g, i, none⟩ = if k * 10 + 6 = i ∧ i < cur.size then some (.int .i64 m) else W.cell? ⟨g, i, none⟩ := fun i => by
      rw [(hb.set (k * 10 + 6) (.int .i64 m)).cell, hb.cell, Array.getElem?_setIfInBounds]
      by_cases h1 : k * 10 + 6 = i
      · subst h1
        by_cases h2 : k * 10 + 6 < cur.size
        · rw [if_pos rfl, if_pos h2, if_pos ⟨rfl, h2⟩]
        · rw [if_pos rfl, if_neg h2, if_neg (fun hc => h2 hc.2), Array.getElem?_eq_none (by omega)]
      · rw [if_neg h1, if_neg (fun hc => h1 hc.1)]
    by_cases hjk : j = k
    · subst hjk
      rw [List.getElem?_set_self hkl, Option.some.injEq] at hj
      subst hj
      intro i hi
      have h6 := h.at_ j _ hk i hi
      rw [cellOf]
      by_cases hi6 : i = 6
      · subst hi6
        have hsz : j * 10 + 6 < cur.size := by
          rw [hb.cell] at h6
          exact (Array.getElem?_eq_some_iff.1 h6).1
        rw [if_pos ⟨rfl, hsz⟩]
        rfl
      · rw [if_neg (by omega), h6]
        rcases (show i = 0 ∨ i = 1 ∨ i = 2 ∨ i = 3 ∨ i = 4 ∨ i = 5 ∨ i = 7 ∨ i = 8 ∨ i = 9 from by omega) with rfl | rfl | rfl | rfl | rfl | rfl | rfl | rfl | rfl <;> rfl
    · rw [List.getElem?_set_ne (fun e => hjk e.symm)] at hj
      intro i hi
      rw [cellOf, if_neg (by omega)]
      exact h.at_ j x hj i hi
  · obtain ⟨j, hj⟩ := List.getElem?_of_mem hx
    by_cases hjk : j = k
    · subst hjk
      rw [List.getElem?_set_self hkl, Option.some.injEq] at hj
      subst hj
      have := (h.kid _ (List.mem_of_getElem? hk)).keep fun b hb => far b (hmem hk b hb)
      unfold NdFp at this ⊢
      exact this
    · rw [List.getElem?_set_ne (fun e => hjk e.symm)] at hj
      exact (h.kid x (List.mem_of_getElem? hj)).keep fun b hb => far b (hmem hj b hb)
theorem kidsFp_set {l : List Kid} {k : Nat} {n n' : Nd} {sv : Value} {f : List Nat} (hk : l[k]? = some (n, sv, f)) : kidsFp (l.set k (n', sv, f)) = kidsFp l := by
  unfold kidsFp
  rw [List.flatMap_def, List.flatMap_def, List.map_set]
  congr 1
  refine List.ext_getElem? fun j => ?_
  rw [List.getElem?_set]
  by_cases h : k = j
  · subst h
    have hkl : k < l.length := (List.getElem?_eq_some_iff.1 hk).1
    rw [if_pos rfl, if_pos (by simpa using hkl), List.getElem?_map, hk]
    rfl
  · rw [if_neg h]

theorem kidsFp_snd {l l' : List Kid} (h : l.map (·.2) = l'.map (·.2)) : kidsFp l = kidsFp l' := by
  have e : ∀ l : List Kid, kidsFp l = (l.map (·.2)).flatMap (·.2) := fun l => by simp [kidsFp, List.flatMap_map]
  rw [e, e, h]
theorem kid_nodup {l : List Kid} (h : (kidsFp l).Nodup) {x : Kid} (hx : x ∈ l) : x.2.2.Nodup := by
  unfold kidsFp at h
  obtain ⟨a1, a2, rfl⟩ := List.append_of_mem hx
  rw [List.flatMap_append, List.flatMap_cons] at h
  exact (List.nodup_append.1 (List.nodup_append.1 h).2.1).1
theorem kid_sub {l : List Kid} {x : Kid} (hx : x ∈ l) : ∀ b ∈ x.2.2, b ∈ kidsFp l := fun _ hb => List.mem_flatMap.2 ⟨x, hx, hb⟩
/-- A world that keeps all blocks of the list. -/
theorem KidsAt.keeps {W W' : World} {F : Nat → Prop} {g : Nat} {l : List Kid} (h : KidsAt W g l) (hF : Keeps F W W') (hg : ¬ F g) (hlt : ∀ b ∈ kidsFp l, b < W.heap.size ∧ ¬ F b) : KidsAt W' g l := by
  refine ⟨fun j x hj => (h.at_ j x hj).keeps hF hg, fun x hm => (h.kid x hm).keep fun y hy => ?_, ?_⟩
  · have := hlt y (kid_sub hm y hy)
    exact hF.block y this.1 this.2
  · obtain ⟨t, cur, hb⟩ := h.blk
    exact ⟨t, cur, hb.keeps hF hg⟩

end Go.Proofs.YtkcgbdoplhgbmaaDoor

namespace Go.Proofs.YtkcgbdoplhgbmaaDoor
open Go Go.RowKit

set_option maxRecDepth 100000 in
set_option maxHeartbeats 8000000 in
theorem copyNode_any : ∀ (n : Nd) (sv : Value) (w : World), NdOk w n sv → smallN n →
    Calls Tryd.prog 15 #[nodeV n.h sv] w (RetNd w n) := by
  refine Nd.ind fun hd subs ih sv w hn hsm => ?_
  obtain ⟨A, c, rfl⟩ := hn.shape
  obtain ⟨hlen, hsm⟩ := hsm
  have IH := Lib.hid (fun n hm sv w hn => ih n hm sv w hn (smallL_mem hsm n hm))
  have HN := Lib.hid hn
  clear ih hsm hn
  simp only [Nd.h, Nd.subs] at *
  go_enter Tryd.func15, Tryd.ntmps15
  go_upto_region 1 with (first
    | (refine wpl_boxNd rfl _ rfl hd _ rfl ?_; intro b w1 hb hx1 eb sb)
    | (refine wpl_allocNd rfl rfl ?_; intro z w2 hz hx2 ez sz))
  have hx12 := hx1.trans hx2
  have hb2 := hb.ext hx2
  have c5 : w2.cell? ⟨b, 5, none⟩ = some (.slice A subs.length c) := hb2.cell 5
  have hbz : b < z := by omega
  have hwz : w.heap.size ≤ z := by omega
  have hwb : w.heap.size ≤ b := eb
  clear hb hx1 hx2 eb sb
  have hsz12 := hx12.size
  have hL0 : LstFp w2 w2.heap.size 27 (.slice none 0 0) [] := LstFp.nil _ _ _
  have hx22 : Ext w2 w2 := Ext.refl w2
  go_wp2
  go_loopw [3, 9] (fun v i wr => ∃ (k : Nat) (l : List Kid), k ≤ subs.length ∧ i = .int .i64 k ∧ l.map (·.1) = subs.take k ∧ LstFp wr w2.heap.size 27 v l ∧ Ext w2 wr) (fun _ i _ => subs.length - (intOf i).toNat)
  case atStart => exact ⟨0, [], Nat.zero_le _, rfl, rfl, hL0, hx22⟩
  case round =>
    clear hL0 hx22
    obtain ⟨k, l, hk, rfl, hl, hL, hx⟩ := hrel
    have HL := Lib.hid hl
    clear hl
    by_cases hlt : k < subs.length
    · obtain ⟨g0, o0, sv, rfl, hat, hok⟩ := HN.out.get k hlt
      have hxw := hx12.trans hx
      replace hat := hat.ext hxw
      have IHk := Lib.hid (fun w' (hw' : Ext wr w') => IH.out subs[k] (List.getElem_mem hlt) sv w' (NdOk.ext (hxw.trans hw') _ _ hok))
      have HM := Lib.hid (show (l.map (·.1)) ++ [subs[k]] = subs.take (k + 1) by rw [HL.out, take_snoc subs k hlt])
      have hll : l.length = k := by have := congrArg List.length HL.out; simp at this; omega
      have hll2 : l.length ≤ 1000000000 := by omega
      clear IH HN HL hll
      have hsh := hok.sl
      generalize subs[k] = nk at *
      have d1 : (k : Int) < (subs.length : Int) := by omega
      go_wp2_with (first
        | (refine wpl_loadNd rfl _ rfl g0 (o0 + k * 10) nk.h sv rfl hat ?_)
        | (refine wpl_allocNd rfl rfl ?_; intro s w4 hs hx4 es ss)
        | (refine wpl_storeNd rfl _ _ rfl rfl s nk.h _ sv _ rfl rfl hsh hs ?_; intro w5 hs5 hk5; have hx5 := hx4.keep1 hk5 es)
        | (refine wpl_loadNd rfl _ rfl s 0 nk.h sv rfl hs5.nd ?_)
        | (go_at_call 15; refine (IHk.out _ hx5).mono ?_; rintro e w6 ⟨sv6, rfl, hn6, hx6⟩)
        | (refine wpl_oneNd rfl _ rfl nk.h sv6 rfl ?_; intro g7 w7 hb7 hx7 e7 s7)
        | (refine wpl_appFp rfl _ _ rfl w2.heap.size u3 l nk sv6 g7 1 wr rfl rfl hL ((hx5.trans hx6).trans hx7) hx.size ((hn6.ext hx7).mono hx5.size) hb7 hll2 ?_; intro v8 w8 hL8 hx78 hg8))
      have hx8 : Ext w2 w8 := ext_grown_lst (hx.trans hx78) hL (Nat.le_refl _) hg8
      obtain ⟨f, hL8⟩ := hL8
      clear hL hx hat hs hx4 es ss hs5 hk5 hx5 hn6 hx6 hb7 hx7 hg8 hx78 hok e7 s7 hsh hxw
      go_roundw
      case rel => exact ⟨k + 1, l ++ [(nk, sv6, f)], by omega, by go_num, by simpa using HM.out, hL8, hx8⟩
      case measure => simp [intOf]; omega
    · have hkl : subs.take k = subs := List.take_of_length_le (by omega)
      rw [hkl] at HL
      have hb3 := hb2.ext hx
      have hz3 := hz.ext hx
      have HN2 := Lib.hid (hL.node hd)
      rw [HL.out] at HN2
      have hd1 : ¬ (k : Int) < (subs.length : Int) := by omega
      obtain ⟨A', c', rfl, _⟩ := hL.len
      clear hkl IH HN HL c5 hL
      go_wp2_with (first
        | (refine wpl_storeSubs rfl _ _ rfl rfl b hd _ _ rfl rfl (isSl_mk _ _ _) hb3 ?_; intro w4 hb4 hk4)
        | (refine wpl_loadNd rfl _ rfl b 0 hd _ rfl hb4.nd ?_)
        | (refine wpl_storeNd rfl _ _ rfl rfl z hd _ _ _ rfl rfl (isSl_mk _ _ _) (hz3.keep1 hk4 (by omega)) ?_; intro w5 hz5 hk5))
      have hsz := hx.size
      exact ret_nd rfl rfl rfl hz5 ⟨.slice A' l.length c', rfl, ((HN2.out.keep1 hk4 (by omega)).keep1 hk5 (by omega)).mono (by omega), ((hx12.trans hx).keep1 hk4 (by omega)).keep1 hk5 (by omega)⟩

end Go.Proofs.YtkcgbdoplhgbmaaDoor

namespace Go.Proofs.YtkcgbdoplhgbmaaDoor
open Go Go.RowKit

theorem blk_setCells {g : Nat} {t : TypeId} : ∀ (vs : List Value) (o : Nat) (w : World) (cur : Array Value), Blk w g t cur →
    ∃ cur', Blk (w.setCells g o vs) g t cur' ∧ cur'.size = cur.size ∧ ∀ i, (i < o ∨ o + vs.length ≤ i) → cur'[i]? = cur[i]?
  | [], o, w, cur, h => ⟨cur, h, rfl, fun _ _ => rfl⟩
  | v :: r, o, w, cur, h => by
    obtain ⟨cur', h1, h2, h3⟩ := blk_setCells r (o + 1) _ _ (h.set o v)
    refine ⟨cur', h1, by rw [h2, Array.size_setIfInBounds], fun i hi => ?_⟩
    simp only [List.length_cons] at hi
    rw [h3 i (by omega), Array.getElem?_setIfInBounds_ne (by omega)]
theorem keeps_setCells {g : Nat} : ∀ (vs : List Value) (o : Nat) (w : World), Keeps (· = g) w (w.setCells g o vs)
  | [], _, w => Keeps.refl _ w
  | v :: r, o, w => ((Keeps.refl (· = g) w).setCell (p := ⟨g, o, none⟩) (.inr rfl) v).trans (keeps_setCells r (o + 1) _) (fun _ _ h => h)
section
variable {ops : Array Oper} {rest : List Oper} {o : Oper} {a : Act} {w : World} {Q : Exit → Act → World → Prop}
/-- The store of a whole node into a block known whole. -/
theorem wpl_setNdB (hgd : o.guard = none) (x y : Operand) (ho : o.op = .store 27 x y) (hd : o.dst = none) (g k : Nat) (h : Hd) (sv : Value) (hx : a.eval x = .pointer (some ⟨g, k, none⟩)) (hy : a.eval y = nodeV h sv) (hs : isSl sv)
    (t : TypeId) (cur : Array Value) (hB : Blk w g t cur) (hle : k + 10 ≤ cur.size)
    (hK : ∀ w1, (∃ cur', Blk w1 g t cur' ∧ cur'.size = cur.size ∧ ∀ i, (i < k ∨ k + 10 ≤ i) → cur'[i]? = cur[i]?) → Keeps (· = g) w w1 → wpList Tryd.prog ops Q rest a w1) : wpList Tryd.prog ops Q (o :: rest) a w := by
  have hpa : a.put o.dst undef = a := by rw [hd]; rfl
  rw [← hpa] at hK
  exact wpList_store_mid hgd 27 x y ho g k (nodeA h sv) hx hy (fun i hi => ⟨by rw [hB.cell, Array.getElem?_eq_getElem (by rw [nodeA_size] at hi; omega)]; rfl, hB.frozen _⟩) (info_ndA h sv) (nodeA_one hs) (hK _ (blk_setCells _ k w cur hB) (keeps_setCells _ _ _))
end

set_option maxRecDepth 100000 in
set_option maxHeartbeats 8000000 in
theorem spoil_any : ∀ (n : Nd) (h' : Hd) (sv : Value) (fp : List Nat) (w : World), NdFp w (.mk h' n.subs) sv fp → fp.Nodup → (∀ b ∈ fp, b < w.heap.size) → smallN n →
    Calls Tryd.prog 22 #[nodeV h' sv] w fun r w' => r = .returned (.tuple #[]) ∧ Keeps (· ∈ fp) w w' := by
  refine Nd.ind fun hd subs ih h' sv fp w hn hnd hlt hsm => ?_
  simp only [Nd.subs] at *
  obtain ⟨A, cp, rfl⟩ := hn.ok.shape
  simp only [Nd.subs] at *
  obtain ⟨hlen, hsm⟩ := hsm
  have IH := Lib.hid (fun n hm h' sv fp w a b c => ih n hm h' sv fp w a b c (smallL_mem hsm n hm))
  clear ih hsm
  by_cases h0 : subs = []
  · subst h0
    simp only [List.length_nil] at *
    clear hn IH hnd hlt
    go_enter Tryd.func22, Tryd.ntmps22
    go_upto_region 1 with (refine wpl_boxNd rfl _ rfl h' _ rfl ?_; intro b w1 hb hx1 eb sb)
    have c5 : w1.cell? ⟨b, 5, none⟩ = some (.slice A 0 cp) := hb.cell 5
    go_wp2
    go_loop [6] (fun i => i = .int .i64 0) (fun _ => 0)
    case atStart => rfl
    case round =>
      subst hrel
      go_wp2
      go_end0
      exact ⟨rfl, Keeps.of_ext hx1⟩
  · obtain ⟨g, c', l, he, rfl, hsl, hK⟩ := hn.kids h0
    injection he with e1 e2 e3
    subst e1 e3
    have HS := Lib.hid hsl
    have hll : l.length = subs.length := by rw [HS.out, List.length_map]
    have HLL := Lib.hid hll
    have hgn : g ∉ kidsFp l := (List.nodup_cons.1 hnd).1
    have hkn : (kidsFp l).Nodup := (List.nodup_cons.1 hnd).2
    have hglt : g < w.heap.size := hlt g (by simp)
    have hklt0 := Lib.hid (fun b (hb : b ∈ kidsFp l) => hlt b (by simp [hb]))
    have HN1 := Lib.hid hgn
    have HN2 := Lib.hid hkn
    clear hnd hn hlt hsl hll hgn hkn e2
    obtain ⟨F, hF⟩ : ∃ F : Nat → Prop, F = fun b => b ∈ g :: kidsFp l := ⟨_, rfl⟩
    have HF := Lib.hid hF
    rw [← hF]
    clear hF
    go_enter Tryd.func22, Tryd.ntmps22
    go_upto_region 1 with (refine wpl_boxNd rfl _ rfl h' _ rfl ?_; intro b w1 hb hx1 eb sb)
    have c5 : w1.cell? ⟨b, 5, none⟩ = some (.slice (some ⟨g, 0, none⟩) subs.length cp) := hb.cell 5
    have hK1 : ∀ j x, 0 ≤ j → l[j]? = some x → NdAt w1 g (j * 10) x.1.h x.2.1 ∧ NdFp w1 x.1 x.2.1 x.2.2 := fun j x _ hj => ⟨(hK.at_ j x hj).ext hx1, (hK.kid x (List.mem_of_getElem? hj)).ext hx1 (fun y hy => hklt0.out y (List.mem_flatMap.2 ⟨x, List.mem_of_getElem? hj, hy⟩))⟩
    obtain ⟨t, cur, hB⟩ := hK.blk
    have hcs : subs.length * 10 ≤ cur.size := by
      have hp : 0 < subs.length := List.length_pos_iff.2 h0
      have h1 := hK.at_ (subs.length - 1) _ (List.getElem?_eq_getElem (by rw [HLL.out]; omega)) 9 (by omega)
      rw [hB.cell] at h1
      have h2 := (Array.getElem?_eq_some_iff.1 (h1.trans rfl)).1
      omega
    have HC := Lib.hid (show ∃ cur', Blk w1 g t cur' ∧ cur'.size = cur.size from ⟨cur, hB.ext hx1, rfl⟩)
    have HCS := Lib.hid hcs
    have hx11 : Keeps F w w1 := Keeps.of_ext hx1
    clear hK hB hcs h0
    generalize cur.size = cz at *
    go_wp2
    clear c5
    go_loopw [6] (fun i wr => ∃ (k : Nat), k ≤ subs.length ∧ i = .int .i64 k ∧ (∀ j x, k ≤ j → l[j]? = some x → NdAt wr g (j * 10) x.1.h x.2.1 ∧ NdFp wr x.1 x.2.1 x.2.2) ∧ (∃ cur', Blk wr g t cur' ∧ cur'.size = cz) ∧ Blk wr b 27 (nodeA h' (.slice (some ⟨g, 0, none⟩) subs.length cp)) ∧ Keeps F w wr) (fun i _ => subs.length - (intOf i).toNat)
    case atStart => exact ⟨0, Nat.zero_le _, rfl, hK1, HC.out, hb, hx11⟩
    case round =>
      clear hK1 hx11 hb hx1 HC
      obtain ⟨k, hk, rfl, hK, hB, hb, hx⟩ := hrel
      have HK := Lib.hid hK
      have HB := Lib.hid hB
      clear hK hB
      by_cases hlt : k < subs.length
      · obtain ⟨nk, sv, f, hkl⟩ : ∃ nk sv f, l[k]? = some (nk, sv, f) := by
          rw [List.getElem?_eq_getElem (by rw [HLL.out]; exact hlt)]
          exact ⟨_, _, _, rfl⟩
        have hmem := List.mem_of_getElem? hkl
        have hsub : ∀ y ∈ f, y ∈ kidsFp l := fun y hy => List.mem_flatMap.2 ⟨_, hmem, hy⟩
        have hnm : nk ∈ subs := by rw [HS.out]; exact List.mem_map.2 ⟨_, hmem, rfl⟩
        obtain ⟨hat, hfp⟩ := HK.out k _ (Nat.le_refl _) hkl
        have hfnd : f.Nodup := kid_nodup HN2.out hmem
        have hksz := hx.size
        have hgf : g ∉ f := fun e => HN1.out (hsub g e)
        have IHk := Lib.hid (IH.out nk hnm nk.h sv f wr (by obtain ⟨a, b⟩ := nk; exact hfp) hfnd (fun y hy => Nat.lt_of_lt_of_le (hklt0.out y (hsub y hy)) hksz))
        have HSUB := Lib.hid hsub
        have HGF := Lib.hid hgf
        have HKL := Lib.hid hkl
        clear IH hfp hfnd hnm hmem hsub hgf hkl
        simp only at hat
        have c5 : wr.cell? ⟨b, 5, none⟩ = some (.slice (some ⟨g, 0, none⟩) subs.length cp) := hb.cell 5
        have d1 : (k : Int) < (subs.length : Int) := by omega
        go_upto_region 5 with (first
          | (refine wpl_loadNd rfl _ rfl g (k * 10) nk.h sv rfl hat ?_)
          | (go_at_call 22; refine IHk.out.mono ?_; rintro e w6 ⟨rfl, hk6⟩))
        have hb6 := hb.keeps hk6 (fun e => by have := hklt0.out b (HSUB.out b e); omega)
        obtain ⟨cur6, hB6, hc6⟩ := HB.out
        replace hB6 := hB6.keeps hk6 HGF.out
        clear c5
        have c5 : w6.cell? ⟨b, 5, none⟩ = some (.slice (some ⟨g, 0, none⟩) subs.length cp) := hb6.cell 5
        have hle : k * 10 + 10 ≤ cur6.size := by have := HCS.out; omega
        go_wp2_with (refine wpl_setNdB rfl _ _ rfl rfl g (k * 10) ⟨77, fun _ => false, k, 0, 0, false⟩ (.slice none 0 0) rfl (node_lit _ _ _ _ _ _) (isSl_mk _ _ _) t cur6 hB6 hle ?_; intro w7 hB7 hk7)
        obtain ⟨cur7, hB7, hs7, hg7⟩ := hB7
        have HG7 := Lib.hid hg7
        have HG6 := Lib.hid hc6
        have HG8 := Lib.hid hs7
        have h6 := hk6.size
        have hx7 : Keeps F w w7 := (hx.trans hk6 (fun y _ e => by rw [HF.out]; exact List.mem_cons_of_mem _ (HSUB.out y e))).trans hk7 (fun y _ e => by rw [HF.out, e]; simp)
        have hb7 := hb6.keeps hk7 (by omega)
        clear hg7 hs7 hc6 c5 hb6 hb hx
        go_roundw
        case rel =>
          refine ⟨k + 1, by omega, by go_num, fun j x hj hjx => ?_, ⟨cur7, hB7, by rw [HG8.out, HG6.out]⟩, hb7, hx7⟩
          obtain ⟨h1, h2⟩ := HK.out j x (by omega) hjx
          have hxm := List.mem_of_getElem? hjx
          have hdis := kids_disj HN2.out (show j ≠ k by omega) hjx HKL.out
          refine ⟨fun i hi => ?_, ?_⟩
          · have h3 := (h1.keeps hk6 HGF.out) i hi
            rw [hB6.cell] at h3
            rw [hB7.cell, HG7.out _ (by omega), h3]
          · refine (h2.keep (fun y hy => hk6.block y (Nat.lt_of_lt_of_le (hklt0.out y (List.mem_flatMap.2 ⟨x, hxm, hy⟩)) hksz) (hdis y hy))).keep (fun y hy => hk7.block y (by have := hklt0.out y (List.mem_flatMap.2 ⟨x, hxm, hy⟩); omega) (fun e => ?_))
            exact HN1.out (e ▸ List.mem_flatMap.2 ⟨x, hxm, hy⟩)
        case measure => simp [intOf]; omega
      · have hd1 : ¬ (k : Int) < (subs.length : Int) := by omega
        clear IH HK HB
        go_wp2
        go_end0
        exact ⟨rfl, hx⟩

/-- spoilFirst: on the way down only the tree's own lists turn. -/
def SpF (w : World) (fp : List Nat) (r : Ending) (w' : World) : Prop := r = .returned (.tuple #[]) ∧ Keeps (· ∈ fp) w w'
def SpI (w : World) (fp : List Nat) (k : Nat) (p : Value) (wr : World) : Prop :=
  ∃ (m : Nd) (h' : Hd) (s : Value) (f : List Nat) (g o : Nat), p = .pointer (some ⟨g, o, none⟩) ∧ NdAt wr g o h' s ∧ NdFp wr (.mk h' m.subs) s f ∧ f.Nodup ∧ (∀ b ∈ f, b ∈ fp ∧ b < w.heap.size) ∧ g ∉ f ∧ smallN m ∧ f.length ≤ k ∧ Keeps (· ∈ fp) w wr
end Go.Proofs.YtkcgbdoplhgbmaaDoor

namespace Go.Proofs.YtkcgbdoplhgbmaaDoor
open Go Go.RowKit

theorem rep25_chk : chkN rep25 = 0 := by
  unfold chkN
  rw [rep25_form]
  have h1 : depthN rep25 = 4 := by simp [rep25, starA, leafN, depthN, depthA, deepB]; decide
  have h2 : sizeN rep25 = 14 := by simp [rep25, starA, leafN, sizeN, sizeA, roundsZ]; decide
  rw [h1, h2]
  decide
theorem starA_small : smallN starA := ⟨by simp, ⟨by simp, trivial⟩, trivial⟩
theorem rep25_small : smallN rep25 := ⟨by simp, starA_small, trivial⟩

set_option maxRecDepth 100000 in
set_option maxHeartbeats 4000000 in
theorem lives15_any (w : World) (A : Nat → Addr) (hE : Err3 w A) :
    Calls Tryd.prog 13 #[] w fun r w' => r = .returned (.bool true) ∧ Ext w w' := by
  have HT := Lib.hid (fun W => (by exact text_any { data := #[97] } W (by decide) : Calls Tryd.prog 56 #[.string { data := #[97] }] W (RetNd W (leafN 97))))
  have HR1 := Lib.hid (fun W sv (hW : NdOk W (leafN 97) sv) => (by exact rep_any (leafN 97) sv 0 (-1) W hW ⟨by simp, trivial⟩ : Calls Tryd.prog 55 #[nodeV (leafN 97).h sv, .int .i64 0, .int .i64 (-1)] W (RetNd W starA)))
  have HR2 := Lib.hid (fun W sv (hW : NdOk W starA sv) => (by exact rep_any starA sv 2 5 W hW starA_small : Calls Tryd.prog 55 #[nodeV starA.h sv, .int .i64 2, .int .i64 5] W (RetNd W rep25)))
  have HX := Lib.hid (fun W sv (hW : NdOk W rep25 sv) (hx : Ext w W) => (by
    have := normal_any rep25 sv W A 100 hW rep25_cl (hE.ext hx) (by decide) (by simp [rep25, starA, leafN, leftN, leftL])
    rwa [rep25_norm, rep25_chk] at this : Calls Tryd.prog 16 #[nodeV rep25.h sv] W (RetNdE W A starA 0)))
  have HS := Lib.hid (fun W a b (ha : NdOk W starA a) (hb : NdOk W starA b) => (by
    have := sameNodes_any _ a _ b W ha hb starA_small
    rwa [sameN_refl] at this : Calls Tryd.prog 19 #[nodeV starA.h a, nodeV starA.h b] W fun r w' => r = .returned (.bool true) ∧ Ext W w'))
  have HF1 := Lib.hid (fun W a (ha : NdOk W starA a) => (by
    have := free_any _ a W ha starA_small
    rwa [star_free] at this : Calls Tryd.prog 20 #[nodeV starA.h a] W fun r w' => r = .returned (.bool true) ∧ Ext W w'))
  have HG := Lib.hid (fun W a (ha : NdOk W starA a) => group_any 1 _ a W ha starA_small)
  have HF2 := Lib.hid (fun W a (ha : NdOk W (.mk ⟨7, noS, 1, 0, 0, false⟩ [starA]) a) => (by
    have := free_any _ a W ha ⟨by simp, starA_small, trivial⟩
    rwa [show freeN (.mk ⟨7, noS, 1, 0, 0, false⟩ [starA]) = false by rw [freeN]; rfl] at this : Calls Tryd.prog 20 #[nodeV ⟨7, noS, 1, 0, 0, false⟩ a] W fun r w' => r = .returned (.bool false) ∧ Ext W w'))
  clear hE
  have he0 : errR A 0 = .nilIface := rfl
  go_enter Tryd.func13, Tryd.ntmps13
  go_upto_region 2 with (first
    | (go_at_call 56; refine (HT.out _).mono ?_; rintro e w1 ⟨sv1, rfl, hn1, hx1⟩)
    | (go_at_call 55; refine (HR1.out _ sv1 hn1.ok).mono ?_; rintro e w2 ⟨sv2, rfl, hn2, hx2⟩)
    | (refine wpl_allocNd rfl rfl ?_; intro s w4 hs hx4 es ss)
    | (refine wpl_storeNd rfl _ _ rfl rfl s starA.h _ sv2 _ rfl rfl hn2.ok.sl hs ?_; intro w5 hs5 hk5; have hx5 := hx4.keep1 hk5 es))
  have hxw := (hx1.trans hx2).trans hx5
  have hok := Lib.hid (show NdOk w5 starA sv2 from hn2.ok.ext hx5)
  clear hn1 hn2 hx1 hx2 hx4 hx5 hk5 es hs
  try simp only [Act.put, List.setIfInBounds_toArray, List.set_cons_succ, List.set_cons_zero]
  go_upto_region 3 with (first
    | (refine wpl_loadNd rfl _ rfl s 0 starA.h sv2 rfl hs5.nd ?_)
    | (go_at_call 55; refine (HR2.out _ sv2 hok.out).mono ?_; rintro e w6 ⟨sv6, rfl, hn6, hx6⟩)
    | (go_at_call 16; refine (HX.out _ sv6 hn6.ok (hxw.trans hx6)).mono ?_; rintro e w7 ⟨sv7, rfl, hn7, hx7⟩)
    | (refine wpl_allocNd rfl rfl ?_; intro t w8 ht hx8 et st)
    | (refine wpl_storeNd rfl _ _ rfl rfl t starA.h _ sv7 _ rfl rfl hn7.ok.sl ht ?_; intro w9 ht9 hk9; have hx9 := hx8.keep1 hk9 et))
  have hx59 := (hx6.trans hx7).trans hx9
  have hok7 := Lib.hid (show NdOk w9 starA sv7 from (show NdNew w6.heap.size w7 starA sv7 from hn7).ok.ext hx9)
  have hok9 := Lib.hid (hok.out.ext hx59)
  have hs9 := hs5.ext hx59
  have hxw9 := hxw.trans hx59
  clear hn6 hn7 hx6 hx7 hx8 hx9 hk9 et ht hx59 hok hs5 hxw HX HR1 HR2 HT
  try simp only [Act.put, List.setIfInBounds_toArray, List.set_cons_succ, List.set_cons_zero]
  go_wp2_with (first
    | (refine wpl_loadNdG _ rfl rfl t 0 starA.h sv7 rfl ht9.nd ?_)
    | (refine wpl_loadNdG _ rfl rfl s 0 starA.h sv2 rfl hs9.nd ?_)
    | (go_at_call 19; refine (HS.out _ _ _ hok7.out hok9.out).mono ?_; rintro e wa ⟨rfl, hxa⟩)
    | (refine wpl_loadNdG _ rfl rfl s 0 starA.h sv2 rfl (hs9.ext hxa).nd ?_)
    | (go_at_call 20; (with_reducible refine (HF1.out _ _ (hok9.out.ext hxa)).mono ?_); rintro e wb ⟨rfl, hxb⟩)
    | (refine wpl_loadNdG _ rfl rfl s 0 starA.h sv2 rfl (hs9.ext (hxa.trans hxb)).nd ?_)
    | (go_at_call 57; refine (HG.out _ _ (hok9.out.ext (hxa.trans hxb))).mono ?_; rintro e wc ⟨svc, rfl, hnc, hxc⟩)
    | (go_at_call 20; refine (HF2.out _ _ hnc.ok).mono ?_; rintro e wd ⟨rfl, hxd⟩))
  go_ret
  exact ⟨rfl, (((hxw9.trans hxa).trans hxb).trans hxc).trans hxd⟩

theorem NdNew.keeps {B : Nat} {W W' : World} {F : Nat → Prop} {n : Nd} {sv : Value} (h : NdNew B W n sv) (hk : Keeps F W W') (hF : ∀ b, B ≤ b → b < W.heap.size → ¬ F b) : NdNew B W' n sv := by
  obtain ⟨fp, h1, h2, h3⟩ := h
  exact ⟨fp, h1.keep (fun b hb => sameAt_of_block (hk.block b (h3 b hb).2 (hF b (h3 b hb).1 (h3 b hb).2))), h2, fun b hb => ⟨(h3 b hb).1, Nat.lt_of_lt_of_le (h3 b hb).2 hk.size⟩⟩

set_option maxRecDepth 100000 in
set_option maxHeartbeats 4000000 in
theorem normalMakes_walk (n : Nd) (sv : Value) (w : World) (A : Nat → Addr) (hn : NdOk w n sv) (hc : clN n) (hE : ErrsAt w A) :
    Calls Tryd.prog 3 #[nodeV n.h sv] w fun r w' => r = .returned (.bool true) ∧ Ext w w' := by
  have HL := Lib.hid (fun W (hW : Ext w W) => lives15_any W A (hE.three.ext hW))
  have HF := Lib.hid (fun W (hW : Ext w W) => few_any n sv 2000 W (NdOk.ext hW _ _ hn) (by omega) (by omega))
  by_cases hf : 0 ≤ leftN n 2000
  · have hsm := small_left n 2000 (by omega) hf
    have hsx : smallN (resN (normN n) (chkN n)) := small_res fun hk => cnt_small _ (Nat.le_trans (cnt_norm n ⟨(chk_ok hk).1, hc⟩) (few_cnt (by omega) hf))
    have HC := Lib.hid (fun W (hW : Ext w W) => (by exact copyNode_any n sv W (hn.ext hW) hsm : Calls Tryd.prog 15 #[nodeV n.h sv] W fun r w' => ∃ s, r = .returned (nodeV n.h s) ∧ NdNew W.heap.size w' n s ∧ Ext W w'))
    have HE := Lib.hid (fun W sv' (hW : Ext w W) (hn' : NdOk W n sv') => (by exact normal_any n sv' W A 2000 hn' hc (hE.three.ext hW) (by omega) hf : Calls Tryd.prog 16 #[nodeV n.h sv'] W fun r w' => ∃ sva, r = .returned (.tuple #[nodeV (resN (normN n) (chkN n)).h sva, errR A (chkN n)]) ∧ NdNew W.heap.size w' (resN (normN n) (chkN n)) sva ∧ Ext W w'))
    have HX := Lib.hid (fun W (hW : Ext w W) => (by exact rnormal_any n sv W 2000 (hn.ext hW) hc (by omega) hf : Calls Tryd.prog 17 #[nodeV n.h sv] W fun r w' => ∃ sva, r = .returned (.tuple #[nodeV (resN (normN n) (chkN n)).h sva, .int .i64 (chkN n)]) ∧ NdB W.heap.size w' (resN (normN n) (chkN n)) sva ∧ Ext W w'))
    have HNum := Lib.hid (fun W (hW : Ext w W) => num_errR A (chkN n) W (chk_le n) (hE.ext hW))
    have HS := Lib.hid (fun W a b (ha : NdOk W (resN (normN n) (chkN n)) a) (hb : NdOk W (resN (normN n) (chkN n)) b) => (by
      have := sameNodes_any _ a _ b W ha hb hsx
      rwa [sameN_refl] at this : Calls Tryd.prog 19 #[nodeV (resN (normN n) (chkN n)).h a, nodeV (resN (normN n) (chkN n)).h b] W fun r w' => r = .returned (.bool true) ∧ Ext W w'))
    have HS2 := Lib.hid (fun W a b (ha : NdOk W n a) (hb : NdOk W n b) => (by
      have := sameNodes_any _ a _ b W ha hb hsm
      rwa [sameN_refl] at this : Calls Tryd.prog 19 #[nodeV n.h a, nodeV n.h b] W fun r w' => r = .returned (.bool true) ∧ Ext W w'))
    have HP1 := Lib.hid (fun W sv' (_ : Ext w W) (hn' : NdOk W n sv') => free_any n sv' W hn' hsm)
    have HP2 := Lib.hid (fun W (hW : Ext w W) => rfree_any n sv W (hn.ext hW) hsm)
    have HSP := Lib.hid (fun sv' fp W (h : NdFp W n sv' fp) hnd hlt => spoil_any n n.h sv' fp W (by obtain ⟨a, b⟩ := n; exact h) hnd hlt hsm)
    have HSX := Lib.hid (fun sv' fp W (h : NdFp W (resN (normN n) (chkN n)) sv' fp) hnd hlt => spoil_any (resN (normN n) (chkN n)) (resN (normN n) (chkN n)).h sv' fp W (by generalize resN (normN n) (chkN n) = q at *; obtain ⟨a, b⟩ := q; exact h) hnd hlt hsx)
    have HFew := Lib.hid hf
    have HNO := Lib.hid hn
    clear hE hn hsm hsx hf hc
    generalize leftN n 2000 = lf at *
    generalize resN (normN n) (chkN n) = x at *
    generalize freeN n = pb at *
    generalize errR A (chkN n) = ev at *
    generalize chkN n = ck at *
    have hfd : decide (0 ≤ lf) = true := by simpa using HFew.out
    rw [hfd] at HF
    clear hfd
    generalize n.h = hd at *
    generalize x.h = xh at *
    go_enter Tryd.func3, Tryd.ntmps3
    go_upto_region 6 with (first
      | (refine wpl_boxNd rfl _ rfl hd _ rfl ?_; intro b w1 hb hx1 eb sb)
      | (go_at_call 13; refine (HL.out _ hx1).mono ?_; rintro e w2 ⟨rfl, hx2⟩)
      | (refine wpl_loadNd rfl _ rfl b 0 hd _ rfl (hb.ext hx2).nd ?_)
      | (go_at_call 14; refine (HF.out _ (hx1.trans hx2)).mono ?_; rintro e w3 ⟨rfl, hx3⟩)
      | (refine wpl_loadNd rfl _ rfl b 0 hd _ rfl (hb.ext (hx2.trans hx3)).nd ?_)
      | (go_at_call 15; refine (HC.out _ ((hx1.trans hx2).trans hx3)).mono ?_; rintro e w4 ⟨svm, rfl, hm4, hx4⟩)
      | (refine wpl_allocNd rfl rfl ?_; intro mm w5 hz hx5 ez sz)
      | (refine wpl_storeNd rfl _ _ rfl rfl mm hd _ svm _ rfl rfl hm4.ok.sl hz ?_; intro w6 hmb hk6; have hx6 := hx5.keep1 hk6 ez))
    obtain ⟨fpm, hfm, hmnd, hmlt⟩ := hm4
    have hwm : Ext w w3 := (hx1.trans hx2).trans hx3
    have hw6 : Ext w w6 := (hwm.trans hx4).trans hx6
    have hb6 := hb.ext (((hx2.trans hx3).trans hx4).trans hx6)
    replace hfm := hfm.ext hx6 (fun b hb => (hmlt b hb).2)
    have s3 := hwm.size
    have s4 := hx6.size
    have HML := Lib.hid (fun y (hy : y ∈ fpm) => (⟨by have := hmlt y hy; omega, by have := hmlt y hy; omega, by have := hmlt y hy; omega⟩ : w.heap.size ≤ y ∧ y < mm ∧ y < w6.heap.size))
    have HFM := Lib.hid hfm
    have HMN := Lib.hid hmnd
    have hmm6 := hmb.lt
    have s6w : w.heap.size ≤ w6.heap.size := hw6.size
    have hmok := hfm.ok
    clear hb hx1 hx2 hx3 hx4 hx5 hx6 hk6 ez sz hz eb sb hfm hmnd hmlt hwm s3 s4 HL HF HC
    try simp only [Act.put, List.setIfInBounds_toArray, List.set_cons_succ, List.set_cons_zero]
    go_upto_region 7 with (first
      | (refine wpl_loadNd rfl _ rfl mm 0 hd _ rfl hmb.nd ?_)
      | (go_at_call 16; refine (HE.out _ svm hw6 hmok).mono ?_; rintro e w7 ⟨sva, rfl, ha7, hx7⟩)
      | (refine wpl_allocNd rfl rfl ?_; intro ma w8 hz hx8 ez sz)
      | (refine wpl_storeNd rfl _ _ rfl rfl ma xh _ sva _ rfl rfl ha7.ok.sl hz ?_; intro w9 hma hk9; have hx9 := hx8.keep1 hk9 ez))
    obtain ⟨fpa, hfa, hand, halt⟩ := ha7
    have hx69 := hx7.trans hx9
    replace hfa := hfa.ext hx9 (fun b hb => (halt b hb).2)
    have s7 := hx7.size
    have s9 := hx9.size
    have HAL := Lib.hid (fun y (hy : y ∈ fpa) => (⟨by have := halt y hy; omega, by have := halt y hy; omega, by have := halt y hy; omega⟩ : w6.heap.size ≤ y ∧ y < ma ∧ y < w9.heap.size))
    have HFA := Lib.hid hfa
    have HAN := Lib.hid hand
    have hma9 := hma.lt
    have hmm9 := hmb.ext hx69
    have hm9 := hmok.ext hx69
    have hb9 := hb6.ext hx69
    have hw9 := hw6.trans hx69
    have hma6 : w6.heap.size ≤ ma := by omega
    have s69 := hx69.size
    clear hx7 hx8 hx9 hk9 ez sz hz hfa hand halt s7 s9 hmb hmok hb6
    try simp only [Act.put, List.setIfInBounds_toArray, List.set_cons_succ, List.set_cons_zero]
    go_upto_region 8 with (first
      | (refine wpl_loadNd rfl _ rfl mm 0 hd _ rfl hmm9.nd ?_)
      | (go_at_call 16; refine (HE.out _ svm hw9 hm9).mono ?_; rintro e wa ⟨svb, rfl, hba, hxa⟩)
      | (refine wpl_allocNd rfl rfl ?_; intro mb wb hz hxb ez sz)
      | (refine wpl_storeNd rfl _ _ rfl rfl mb xh _ svb _ rfl rfl hba.ok.sl hz ?_; intro wc hmb hkc; have hxc := hxb.keep1 hkc ez))
    have hx9c := hxa.trans hxc
    have sa := hxa.size
    have sc := hxc.size
    have hbb := hba.ext hxc
    have hmbc := hmb.lt
    have hmmc := hmm9.ext hx9c
    have hmac := hma.ext hx9c
    have hmc := hm9.ext hx9c
    have hbc := hb9.ext hx9c
    have hwc := hw9.trans hx9c
    have hmb9 : w9.heap.size ≤ mb := by omega
    have s9c := hx9c.size
    clear hxa hxb hxc hkc ez sz hz hba sa sc hmm9 hma hm9 hb9 HE
    try simp only [Act.put, List.setIfInBounds_toArray, List.set_cons_succ, List.set_cons_zero]
    go_upto_region 9 with (first
      | (refine wpl_loadNd rfl _ rfl b 0 hd _ rfl hbc.nd ?_)
      | (go_at_call 17; refine (HX.out _ hwc).mono ?_; rintro e wd ⟨svw, rfl, hwd, hxd⟩)
      | (refine wpl_allocNd rfl rfl ?_; intro mw we hz hxe ez sz)
      | (refine wpl_storeNd rfl _ _ rfl rfl mw xh _ svw _ rfl rfl hwd.ok.sl hz ?_; intro wf hmw hkf; have hxf := hxe.keep1 hkf ez))
    have hxcf := hxd.trans hxf
    have sd := hxd.size
    have sf := hxf.size
    have hwf := hwd.ext hxf
    have hmwf := hmw.lt
    have hmmf := hmmc.ext hxcf
    have hmaf := hmac.ext hxcf
    have hmbf := hmb.ext hxcf
    have hbf := hbc.ext hxcf
    have hmf := hmc.ext hxcf
    have hbbf := hbb.ext hxcf
    have hx6f := (hx69.trans hx9c).trans hxcf
    have hx9f := hx9c.trans hxcf
    have hfaf := Lib.hid (HFA.out.ext hx9f (fun b hb => (HAL.out b hb).2.2))
    have hfmf := Lib.hid (HFM.out.ext hx6f (fun b hb => (HML.out b hb).2.2))
    have hww := hwc.trans hxcf
    have hmwc : wc.heap.size ≤ mw := by omega
    have scf := hxcf.size
    clear hxd hxe hxf hkf ez sz hz hwd sd sf hmmc hmac hmb hbc hmc hbb HX HFA HFM hx69 hx9c hxcf hx6f hx9f hw6 hw9 hwc
    try simp only [Act.put, List.setIfInBounds_toArray, List.set_cons_succ, List.set_cons_zero]
    refine wp_region_plus (by kernel_rfl) (by kernel_rfl) ?_
    repeat (first
      | (refine wpQuiet_loadNd _ rfl rfl ma 0 xh _ rfl hmaf.nd ?_; simp only [Act.put, List.setIfInBounds_toArray, List.set_cons_succ, List.set_cons_zero])
      | (refine wpQuiet_loadNd _ rfl rfl mw 0 xh _ rfl hmw.nd ?_; simp only [Act.put, List.setIfInBounds_toArray, List.set_cons_succ, List.set_cons_zero])
      | (refine wpQuiet_loadNd _ rfl rfl mm 0 hd _ rfl hmmf.nd ?_; simp only [Act.put, List.setIfInBounds_toArray, List.set_cons_succ, List.set_cons_zero])
      | (refine wpQuiet_loadNd _ rfl rfl b 0 hd _ rfl hbf.nd ?_; simp only [Act.put, List.setIfInBounds_toArray, List.set_cons_succ, List.set_cons_zero])
      | (go_big_quiet_step (first
        | (go_at_call 18; exact Calls.plus_of (HNum.out _ (hww.trans (plus_ext _ _))))
        | (go_at_call 19; with_reducible exact Calls.plus_of (HS.out _ _ _ (hfaf.out.ok.ext (plus_ext _ _)) (hwf.ok.ext (plus_ext _ _))))
        | (go_at_call 19; with_reducible exact Calls.plus_of (HS2.out _ _ _ (hmf.ext (plus_ext _ _)) (HNO.out.ext (hww.trans (plus_ext _ _)))))
        | (go_at_call 20; exact Calls.plus_of (HP1.out _ _ (hww.trans (plus_ext _ _)) (hmf.ext (plus_ext _ _))))
        | (go_at_call 21; exact Calls.plus_of (HP2.out _ (hww.trans (plus_ext _ _)))))))
    refine wpQuiet_nil ?_
    intro y
    have hyg := plus_ext wf y
    have hmmg := hmmf.ext hyg
    have hmag := hmaf.ext hyg
    have hmbg := hmbf.ext hyg
    have hmwg := hmw.ext hyg
    have s6c : w6.heap.size ≤ wf.heap.size := by omega
    have hfag := Lib.hid (hfaf.out.ext hyg (fun b hb => by have := HAL.out b hb; omega))
    have hfmg := Lib.hid (hfmf.out.ext hyg (fun b hb => by have := HML.out b hb; omega))
    have hwg := hwf.ext hyg
    have hbg := hbbf.ext hyg
    have hwwg := hww.trans hyg
    have sg := hyg.size
    generalize plus wf y = wg at *
    clear hmmf hmaf hmbf hmw hfaf hfmf hwf hbbf hww hyg hbf hmf
    have HSPm := Lib.hid (HSP.out svm fpm wg hfmg.out HMN.out (fun b hb => by have := HML.out b hb; omega))
    go_upto_region 12 with (first
      | (refine wpl_loadNd rfl _ rfl mm 0 hd _ rfl hmmg.nd ?_)
      | (go_at_call 22; refine HSPm.out.mono ?_; rintro e wh ⟨rfl, hkh⟩))
    have hmah := hmag.keeps hkh (fun e => by have := HML.out _ e; omega)
    have hmbh := hmbg.keeps hkh (fun e => by have := HML.out _ e; omega)
    have hmwh := hmwg.keeps hkh (fun e => by have := HML.out _ e; omega)
    have hfah := Lib.hid (hfag.out.keep (fun b hb => hkh.block b (by have := HAL.out b hb; omega) (fun e => by have := HML.out b e; have := HAL.out b hb; omega)))
    have hwh := hwg.keeps hkh (fun b hb _ e => by have := HML.out b e; omega)
    have hbh := hbg.keeps hkh (fun b hb _ e => by have := HML.out b e; omega)
    have hwwh := hwwg.keeps hkh (fun b hb e => by have := HML.out b e; omega)
    have sh := hkh.size
    clear hmag hmbg hmwg hfag hfmg hwg hbg hwwg hkh hmmg HSPm
    try simp only [Act.put, List.setIfInBounds_toArray, List.set_cons_succ, List.set_cons_zero]
    go_upto_region 14 with (first
      | (refine wpl_loadNd rfl _ rfl ma 0 xh _ rfl hmah.nd ?_)
      | (refine wpl_loadNd rfl _ rfl mw 0 xh _ rfl hmwh.nd ?_)
      | (go_at_call 19; refine (HS.out _ _ _ hfah.out.ok hwh.ok).mono ?_; rintro e wi ⟨rfl, hxi⟩))
    have hmai := hmah.ext hxi
    have hmbi := hmbh.ext hxi
    have hmwi := hmwh.ext hxi
    have hfai := hfah.out.ext hxi (fun b hb => by have := HAL.out b hb; omega)
    have hwi := hwh.ext hxi
    have hbi := hbh.ext hxi
    have hwwi := hwwh.trans hxi
    have si := hxi.size
    have HSFa := Lib.hid (HSX.out sva fpa wi hfai HAN.out (fun b hb => by have := HAL.out b hb; omega))
    have hmaj := hmai
    clear hmah hmbh hmwh hfah hwh hbh hwwh hxi hfai hmai
    try simp only [Act.put, List.setIfInBounds_toArray, List.set_cons_succ, List.set_cons_zero]
    go_upto_region 15 with (first
      | (refine wpl_loadNd rfl _ rfl ma 0 xh _ rfl hmaj.nd ?_)
      | (go_at_call 22; refine HSFa.out.mono ?_; rintro e wj ⟨rfl, hkj⟩))
    have hmbj := hmbi.keeps hkj (fun e => by have := HAL.out _ e; omega)
    have hmwj := hmwi.keeps hkj (fun e => by have := HAL.out _ e; omega)
    have hwj := hwi.keeps hkj (fun b hb _ e => by have := HAL.out b e; omega)
    have hbj := hbi.keeps hkj (fun b hb _ e => by have := HAL.out b e; omega)
    have hwwj := hwwi.keeps hkj (fun b hb e => by have := HAL.out b e; omega)
    clear hmbi hmwi hwi hbi hwwi hkj HSFa
    try simp only [Act.put, List.setIfInBounds_toArray, List.set_cons_succ, List.set_cons_zero]
    go_wp2_with (first
      | (refine wpl_loadNd rfl _ rfl mb 0 xh _ rfl hmbj.nd ?_)
      | (refine wpl_loadNd rfl _ rfl mw 0 xh _ rfl hmwj.nd ?_)
      | (go_at_call 19; refine (HS.out _ _ _ hbj.ok hwj.ok).mono ?_; rintro e wk ⟨rfl, hxk⟩))
    go_ret
    exact ⟨rfl, hwwj.trans hxk⟩
  · have hd0 : decide (0 ≤ leftN n 2000) = false := by simpa using hf
    rw [hd0] at HF
    clear hE hn hd0 hf hc
    generalize n.h = hd at *
    go_enter Tryd.func3, Tryd.ntmps3
    go_upto_region 1 with (refine wpl_boxNd rfl _ rfl hd _ rfl ?_; intro b w1 hb hx1 eb sb)
    go_wp2_with (first
      | (go_at_call 13; refine (HL.out _ hx1).mono ?_; rintro e w2 ⟨rfl, hx2⟩)
      | (refine wpl_loadNd rfl _ rfl b 0 hd _ rfl (hb.ext hx2).nd ?_)
      | (go_at_call 14; refine (HF.out _ (hx1.trans hx2)).mono ?_; rintro e w3 ⟨rfl, hx3⟩))
    go_ret
    exact ⟨rfl, (hx1.trans hx2).trans hx3⟩


end Go.Proofs.YtkcgbdoplhgbmaaDoor
