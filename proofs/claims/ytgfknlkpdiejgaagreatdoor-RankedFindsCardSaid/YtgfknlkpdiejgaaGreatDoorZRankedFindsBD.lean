/- trawlref04.Check as a contract: the number of tree.Check's error. Condition: the tree lies in memory, it has few nodes. trawlref12.Check as a contract. Condition: tree and parse lie in memory, the tree has few nodes; the subject has at most a million bytes. trawlref12.numbers as a contract: the numbers of all groups of a tree, as new memory. Condition: the tree lies in memory, it has few nodes. What Laid of the best parse is, in plain words: what ranked tells; the best parse is small, and a parse. No program. -/
import Derived.Test.YtgfknlkpdiejgaaGreatDoorZRankedFindsAF
import Derived.Test.YtgfknlkpdiejgaaGreatDoorZRankedFindsBC
import Derived.Test.YtgfknlkpdiejgaaGreatDoorZRankedFindsAE
import Derived.Test.YtgfknlkpdiejgaaGreatDoorZRankedFindsAG
import Derived.Test.YtgfknlkpdiejgaaGreatDoorZRankedFindsAQ
import Derived.Test.YtgfknlkpdiejgaaGreatDoorZRankedFindsAU
import Derived.Test.YtgfknlkpdiejgaaGreatDoorZRankedFindsAR
import Derived.Test.YtgfknlkpdiejgaaGreatDoorZRankedFindsAW
namespace Go.Proofs.YtgfknlkpdiejgaaGreatDoor
open Go Go.RowKit

set_option maxRecDepth 100000 in
set_option maxHeartbeats 4000000 in
theorem check04_any (n : Nd) (sv : Value) (w : World) (m : Int) (hn : NdOk w n sv) (hm : m ≤ 1000000) (hfew : 0 ≤ leftN n m) :
    Calls Tryz.prog 29 #[nodeV n.h sv] w fun r w' => r = .returned (.int .i64 (chkN n)) ∧ Ext w w' := by
  have hsm := small_left n m hm hfew
  have H1 := Lib.hid (fun W (hW : Ext w W) => form04_any n sv W (hn.ext hW) hsm)
  have H2 := Lib.hid (fun W (hW : Ext w W) => depth04_any n sv W m (hn.ext hW) hm hfew)
  have H3 := Lib.hid (fun W (hW : Ext w W) (hf : formB n = true) => size04_any n sv W (hn.ext hW) hsm hf)
  have HR := Lib.hid (show chkN n = if formB n = false then 13 else if 200 < depthN n then 14 else if 2000 < sizeN n then 10 else 0 from rfl)
  clear hn hm hfew hsm
  generalize chkN n = ck at *
  generalize depthN n = dn at *
  generalize sizeN n = sn at *
  generalize formB n = fb at *
  generalize n.h = hd at *
  go_enter Tryz.func29, Tryz.ntmps29
  go_upto_region 1 with (refine wpl_boxNd rfl _ rfl hd _ rfl ?_; intro b w1 hb hx1 eb sb)
  cases fb
  · have HR2 := Lib.hid (HR.out.trans (if_pos rfl))
    clear HR H2 H3
    go_wp2_with (first
      | (refine wpl_loadNd rfl _ rfl b 0 hd _ rfl hb.nd ?_)
      | (go_at_call 40; refine (H1.out _ hx1).mono ?_; rintro e w2 ⟨rfl, hx2⟩))
    go_ret
    exact ⟨by rw [HR2.out]; rfl, hx1.trans hx2⟩
  have HR1 := Lib.hid (HR.out.trans (if_neg (by decide)))
  have H3' := Lib.hid (fun W hW => H3.out W hW rfl)
  clear HR H3
  by_cases hd1 : 200 < dn
  · have HR2 := Lib.hid (HR1.out.trans (if_pos hd1))
    clear HR1 H3'
    go_wp2_with (first
      | (refine wpl_loadNd rfl _ rfl b 0 hd _ rfl hb.nd ?_)
      | (go_at_call 40; refine (H1.out _ hx1).mono ?_; rintro e w2 ⟨rfl, hx2⟩)
      | (refine wpl_loadNd rfl _ rfl b 0 hd _ rfl (hb.ext hx2).nd ?_)
      | (go_at_call 56; refine (H2.out _ (hx1.trans hx2)).mono ?_; rintro e w3 ⟨rfl, hx3⟩))
    go_ret
    exact ⟨by rw [HR2.out]; rfl, (hx1.trans hx2).trans hx3⟩
  have HR3 := Lib.hid (HR1.out.trans (if_neg hd1))
  clear HR1
  by_cases hd2 : 2000 < sn
  all_goals
    go_wp2_with (first
      | (refine wpl_loadNd rfl _ rfl b 0 hd _ rfl hb.nd ?_)
      | (go_at_call 40; refine (H1.out _ hx1).mono ?_; rintro e w2 ⟨rfl, hx2⟩)
      | (refine wpl_loadNd rfl _ rfl b 0 hd _ rfl (hb.ext hx2).nd ?_)
      | (go_at_call 56; refine (H2.out _ (hx1.trans hx2)).mono ?_; rintro e w3 ⟨rfl, hx3⟩)
      | (refine wpl_loadNd rfl _ rfl b 0 hd _ rfl (hb.ext (hx2.trans hx3)).nd ?_)
      | (go_at_call 41; refine (H3'.out _ ((hx1.trans hx2).trans hx3)).mono ?_; rintro e w4 ⟨rfl, hx4⟩))
    go_ret
    exact ⟨by rw [HR3.out]; first | (rw [if_pos hd2]; rfl) | (rw [if_neg (by omega)]; rfl), ((hx1.trans hx2).trans hx3).trans hx4⟩

end Go.Proofs.YtgfknlkpdiejgaaGreatDoor

namespace Go.Proofs.YtgfknlkpdiejgaaGreatDoor
open Go Go.RowKit

section
variable {s : ByteArray} {c e : Int}
end

end Go.Proofs.YtgfknlkpdiejgaaGreatDoor

namespace Go.Proofs.YtgfknlkpdiejgaaGreatDoor
open Go Go.RowKit

mutual
def numsN : Nd → List Int
  | .mk h subs => (if h.kind = 7 then [h.num] else []) ++ numsL subs
def numsL : List Nd → List Int
  | [] => []
  | n :: r => numsN n ++ numsL r
end
theorem numsL_snoc : ∀ (a : List Nd) (n : Nd), numsL (a ++ [n]) = numsL a ++ numsN n
  | [], n => by simp [numsL]
  | x :: a, n => by
    show numsL (x :: (a ++ [n])) = _
    rw [numsL, numsL, numsL_snoc a n, List.append_assoc]
mutual
theorem numsN_few : ∀ (n : Nd) (m : Int), 0 ≤ leftN n m → (numsN n).length ≤ m - leftN n m
  | .mk h subs, m, hl => by
    unfold leftN at hl ⊢
    have := numsL_few subs (m - 1) hl
    unfold numsN
    rw [List.length_append]
    split <;> simp <;> omega
theorem numsL_few : ∀ (l : List Nd) (m : Int), 0 ≤ leftL l m → (numsL l).length ≤ m - leftL l m
  | [], m, hl => by unfold leftL numsL; simp
  | n :: r, m, hl => by
    by_cases hm : 0 ≤ m
    · rw [leftL, if_pos hm] at hl ⊢
      have h2 : 0 ≤ leftN n m := by
        rcases Int.lt_or_le (leftN n m) 0 with h3 | h3
        · rw [leftL_neg _ _ h3] at hl; omega
        · exact h3
      have h3 := numsN_few n m h2
      have h5 := numsL_few r (leftN n m) hl
      rw [numsL, List.length_append]
      omega
    · rw [leftL_neg _ _ (by omega)] at hl
      omega
end
/-- What numbers answers. -/
def RetNums (w : World) (l : List Int) (r : Ending) (w' : World) : Prop := ∃ v, r = .returned v ∧ Own1 w' w.heap.size 3 v (cI l) ∧ Ext w w'

theorem own_src {w : World} {B : Nat} {t : TypeId} {v : Value} {xs : List Value} (h : Own1 w B t v xs) : (v = .slice none 0 0 ∧ xs = []) ∨ ∃ ad c, v = .slice (some ad) xs.length c ∧ ∀ j u, xs[j]? = some u → w.cell? (ad.add j) = some u := by
  rcases h.slice with h1 | ⟨g, cap, cur, rfl, _⟩
  · exact .inl h1
  · refine .inr ⟨⟨g, 0, none⟩, cap, rfl, fun j u hj => ?_⟩
    have ea : (⟨g, 0, none⟩ : Addr).add j = ⟨g, j, none⟩ := by unfold Addr.add; split <;> simp_all
    rw [ea]
    exact h.cells.2 j u hj
theorem cI_one (l : List Int) : ∀ u ∈ cI l, u.oneCell' = true := by
  intro u hu
  simp only [cI, List.mem_map] at hu
  obtain ⟨x, _, rfl⟩ := hu
  rfl
theorem cI_app (a b : List Int) : cI a ++ cI b = cI (a ++ b) := by simp [cI]
theorem numsL_len (subs : List Nd) (k : Nat) : (numsL (subs.take k)).length ≤ (numsL subs).length := by
  conv => rhs; rw [← List.take_append_drop k subs]
  generalize subs.take k = a
  generalize subs.drop k = b
  induction a with
  | nil => simp [numsL]
  | cons x a ih =>
    show (numsL (x :: a)).length ≤ (numsL (x :: (a ++ b))).length
    rw [numsL, numsL, List.length_append, List.length_append]
    omega

set_option maxRecDepth 100000 in
set_option maxHeartbeats 4000000 in
theorem numbers_any : ∀ (n : Nd) (sv : Value) (w : World), NdOk w n sv → (numsN n).length ≤ 1000000 → smallN n →
    Calls Tryz.prog 80 #[nodeV n.h sv] w (RetNums w (numsN n)) := by
  refine Nd.ind fun h subs ih sv w hn hlen hsm => ?_
  obtain ⟨A, c, rfl⟩ := hn.shape
  obtain ⟨hsl, hsml⟩ := hsm
  simp only [Nd.subs] at *
  rw [numsN] at hlen
  show Calls _ _ #[nodeV h _] _ _
  have HR := Lib.hid (by rw [numsN] : numsN (.mk h subs) = (if h.kind = 7 then [h.num] else []) ++ numsL subs)
  have IH := Lib.hid (fun n hm sv w hn hl => ih n hm sv w hn hl (smallL_mem hsml n hm))
  have HN := Lib.hid hn
  obtain ⟨l0, HL0⟩ : ∃ l0, Hid (l0 = if h.kind = 7 then [h.num] else []) := ⟨_, Lib.hid rfl⟩
  rw [← HL0.out] at HR hlen
  rw [List.length_append] at hlen
  generalize numsN (.mk h subs) = res at *
  have hl0 : l0.length ≤ 1 := by rw [HL0.out]; split <;> simp
  clear ih hn hsml
  go_enter Tryz.func80, Tryz.ntmps80
  go_upto_region 1 with (refine wpl_boxNd rfl _ rfl h _ rfl ?_; intro z w1 hb hx1 ez sz)
  have n0 : w1.cell? ⟨z, 0, none⟩ = some (.int .i64 h.kind) := hb.cell 0
  have n5 : w1.cell? ⟨z, 5, none⟩ = some (.slice A subs.length c) := hb.cell 5
  have n6 : w1.cell? ⟨z, 6, none⟩ = some (.int .i64 h.num) := hb.cell 6
  clear hb ez sz
  have hO0 : Own1 w1 w1.heap.size 3 (.slice none 0 0) (cI []) := Own1.nil _ _ _
  by_cases t : h.kind = 7
  case' pos =>
    have HL1 := Lib.hid (HL0.out.trans (if_pos t))
    rw [t] at n0
    clear HL0 t
    go_upto_region 4 with (at_builtin; refine wpList_app1 rfl (.tmp 8) (.tmp 11) 90 rfl w1.heap.size 3 (.int .i64 0) 8 Tryz.underlying90 info_int rfl (.slice none 0 0) (cI []) rfl (hO0.ext ((Ext.refl w1).alloc _)) w1.heap.size 1 (.int .i64 h.num) rfl (by rw [(Blk.new w1 _ _).cell]; rfl) rfl (by simp) (by simp) (by simp) ?_; intro v2 w2 hO2 hb2)
    have hx2 : Ext w1 w2 := Ext.of_below ((Ext.refl w1).alloc _) hb2 (Nat.le_refl _)
    have hO3 : Own1 w2 w1.heap.size 3 v2 (cI l0) := by rw [HL1.out]; exact hO2
    clear hO2 hb2 HL1 n0 n6 hO0
    have n52 := hx2.cell n5
  case' neg =>
    have HL1 := Lib.hid (HL0.out.trans (if_neg t))
    have t2 : (h.kind == 7) = false := by simpa using t
    clear HL0 t
    generalize h.kind = kind at *
    go_upto_region 4 with fail
    have hO3 : Own1 w1 w1.heap.size 3 (.slice none 0 0) (cI l0) := by rw [HL1.out]; exact hO0
    have hx2 : Ext w1 w1 := Ext.refl w1
    have n52 := n5
    clear HL1 n0 n6 hO0 t2
  all_goals
    have hO4 := Lib.hid hO3
    clear hO3
    go_wp2
    go_loopw [3, 4] (fun v i wr => ∃ k : Nat, k ≤ subs.length ∧ i = .int .i64 k ∧ Own1 wr w1.heap.size 3 v (cI (l0 ++ numsL (subs.take k))) ∧ Ext w1 wr) (fun _ i _ => subs.length - (intOf i).toNat)
    case atStart => exact ⟨0, Nat.zero_le _, rfl, by rw [List.take_zero, numsL, List.append_nil]; exact hO4.out, hx2⟩
    case round =>
      clear n52 hO4 hx2
      obtain ⟨k, hk, rfl, hO, hx⟩ := hrel
      have hxw := hx1.trans hx
      have c5 := hx.cell n5
      clear n5
      by_cases hlt : k < subs.length
      · obtain ⟨g, o, sv', rfl, hat, hok⟩ := HN.out.get k hlt
        have hat' := hat.ext hxw
        have hst : numsL (subs.take (k + 1)) = numsL (subs.take k) ++ numsN subs[k] := by rw [take_snoc subs k hlt, numsL_snoc]
        have hb1 := numsL_len subs (k + 1)
        rw [hst, List.length_append] at hb1
        have HST := Lib.hid (show cI (l0 ++ numsL (subs.take k)) ++ cI (numsN subs[k]) = cI (l0 ++ numsL (subs.take (k + 1))) by rw [cI_app, hst, List.append_assoc])
        have IHk := Lib.hid (IH.out subs[k] (List.getElem_mem hlt) sv' wr (hok.ext hxw) (by omega))
        have hb2 : (l0 ++ numsL (subs.take k)).length ≤ 1000001 := by rw [List.length_append]; omega
        have hb3 : (numsN subs[k]).length ≤ 1000000 := by omega
        have t1 : (k : Int) < (subs.length : Int) := by omega
        clear hat hok hst IH HN HR hb1
        generalize numsN subs[k] = nk at *
        generalize l0 ++ numsL (subs.take k) = lk at *
        generalize hhn : subs[k].h = hn at *
        clear hhn
        go_upto_region 6 with (first
          | (refine wpl_loadNd rfl _ rfl g (o + k * 10) hn sv' rfl hat' ?_)
          | (go_at_call 80; refine IHk.out.mono ?_; rintro e w5 ⟨v5, rfl, hO5, hx5⟩)
          | (at_builtin; refine wpList_appK rfl (.tmp 20) (.tmp 26) 90 rfl w1.heap.size 3 (.int .i64 0) 8 Tryz.underlying90 info_int rfl u3 (cI lk) (cI nk) rfl (hO.ext hx5) (own_src hO5) (cI_one _) (by rw [cI_len, cI_len]; omega) (by rw [cI_len, cI_len]; omega) (hx.trans hx5).size ?_; intro v6 w6 hO6 hg6 _ _))
        rw [HST.out] at hO6
        have hx6 : Ext w1 w6 := (hx.trans hx5).grown hg6 (fun i hi => (hO.own i hi).1)
        clear hg6 hO hO5 hx5 hx hxw c5 hat' IHk
        go_wp2
        go_roundw
        case rel => exact ⟨k + 1, by omega, by go_num, hO6, hx6⟩
        case measure => simp [intOf]; omega
      · have hkl : subs.take k = subs := List.take_of_length_le (by omega)
        rw [hkl] at hO
        have t1 : ¬ (k : Int) < (subs.length : Int) := by omega
        clear IH HN hkl
        go_wp2
        go_ret
        exact ⟨_, rfl, by rw [HR.out]; exact hO.mono hx1.size, hxw⟩

end Go.Proofs.YtgfknlkpdiejgaaGreatDoor

namespace Go.Proofs.YtgfknlkpdiejgaaGreatDoor
open Go Go.RowKit

theorem setS_set0 {num : Int} (h : 0 < num) (x y : Int × Int) (l : List (Int × Int)) : setS num y (l.set 0 x) = (setS num y l).set 0 x := by
  unfold setS
  simp only [List.length_set]
  split
  · exact List.set_comm _ _ (by omega)
  · rfl
mutual
/-- Every group has a number above zero. -/
def posN : Nd → Prop
  | .mk h subs => (h.kind = 7 → 0 < h.num) ∧ posL subs
def posL : List Nd → Prop
  | [] => True
  | n :: r => posN n ∧ posL r
end
theorem posL_mem : ∀ {l : List Nd}, posL l → ∀ n ∈ l, posN n
  | [], _, n, hn => by cases hn
  | a :: r, h, n, hn => by
    rcases List.mem_cons.1 hn with rfl | hn
    · exact h.1
    · exact posL_mem h.2 n hn
theorem posL_of : ∀ {l : List Nd}, (∀ n ∈ l, posN n) → posL l
  | [], _ => trivial
  | a :: r, h => ⟨h a (by simp), posL_of fun n hn => h n (by simp [hn])⟩
theorem form_pos : ∀ n : Nd, formB n = true → posN n := Nd.ind fun h subs ih hf => by
  refine ⟨fun hk => ?_, posL_of fun n hn => ih n hn (form_sub hf n hn)⟩
  rcases form_cases hf with h1 | h1 | h1 | h1 | h1 | h1 | h1 | h1
  all_goals first | exact h1.2.2.1 | omega
mutual
theorem unsetN_set0 : ∀ (n : Nd) (l : List (Int × Int)) (x : Int × Int), posN n → unsetN n (l.set 0 x) = (unsetN n l).set 0 x
  | .mk h subs, l, x, hp => by
    rw [unsetN, unsetN, set_kind, set_kind, ← unsetL_set0 subs _ x hp.2]
    congr 1
    split
    · rename_i hk
      have := hp.1 hk
      exact List.set_comm _ _ (by omega)
    · rfl
theorem unsetL_set0 : ∀ (ns : List Nd) (l : List (Int × Int)) (x : Int × Int), posL ns → unsetL ns (l.set 0 x) = (unsetL ns l).set 0 x
  | [], l, x, _ => by rw [unsetL, unsetL]
  | n :: r, l, x, hp => by rw [unsetL, unsetL, unsetN_set0 n l x hp.1, unsetL_set0 r _ x hp.2]
end
theorem pos_nds {h : Hd} {subs : List Nd} (hp : posL subs) (d : Pd) (n : Nat) : posL (ndsOf h subs d n) := by
  have hd : posN ndInh.default := ⟨fun h => absurd h (by decide), trivial⟩
  have hg : ∀ k, posN (subs.getD k ndInh.default) := fun k => by
    rw [List.getD_eq_getElem?_getD]
    cases he : subs[k]? with
    | none => exact hd
    | some v => exact posL_mem hp v (List.mem_of_getElem? he)
  unfold ndsOf
  split
  · exact ⟨hg _, trivial⟩
  · split
    · exact posL_of fun m hm => by rw [List.eq_of_mem_replicate hm]; exact hg _
    · exact hp
mutual
theorem walkN_set0 : ∀ (p : Ps) (n : Nd) (l : List (Int × Int)) (x : Int × Int), posN n → walkN p n (l.set 0 x) = (walkN p n l).set 0 x
  | .mk d ps, .mk h subs, l, x, hp => by
    rw [walkN, walkN, ← walkR_set0 ps _ _ x (pos_nds hp.2 d ps.length)]
    congr 1
    split
    · rename_i hk
      rw [unsetL_set0 subs l x hp.2, setS_set0 (hp.1 hk)]
    · rfl
theorem walkR_set0 : ∀ (ps : List Ps) (ns : List Nd) (l : List (Int × Int)) (x : Int × Int), posL ns → walkR ps ns (l.set 0 x) = (walkR ps ns l).set 0 x
  | [], _, l, x, _ => by rw [walkR, walkR]
  | _ :: _, [], l, x, _ => by rw [walkR, walkR]
  | p :: r, n :: nr, l, x, hp => by rw [walkR, walkR, walkN_set0 p n l x hp.1, walkR_set0 r nr _ x hp.2]
end
theorem spans_told {L : Hd → Int → Int → Bool} {t : Nd} (hf : formB t = true) (a b g : Nat) : spansN t (bestN L t a b) g = toldN L t a b g := by
  unfold spansN toldN spans0
  rw [walkN_set0 _ _ _ _ (form_pos t hf), (best_d (L := L) t a b).1, (best_d (L := L) t a b).2]

/-! ### the best parse is small -/
theorem topN_le (Q : Nat → Prop) : ∀ h, topN Q h ≤ h
  | 0 => Nat.le_refl _
  | h + 1 => by
    rw [topN]
    split
    · exact Nat.le_refl _
    · have := topN_le Q h; omega
theorem cutK_le (R S : Rl) (l a b : Nat) : cutK R S l a b ≤ b := topN_le _ _
theorem smallPL_of : ∀ {l : List Ps}, (∀ p ∈ l, smallP p) → smallPL l
  | [], _ => trivial
  | a :: r, h => ⟨h a (by simp), smallPL_of fun n hn => h n (by simp [hn])⟩
theorem rnds_small {f : Nat → Nat → Ps} {R : Rl} {n : Nat} (hf : ∀ a b, b ≤ n → smallP (f a b)) : ∀ (g : Nat) (mn mx : Int) (a b : Nat), b ≤ n → (rndsR f R g mn mx a b).length ≤ g ∧ ∀ p ∈ rndsR f R g mn mx a b, smallP p
  | 0, mn, mx, a, b, hb => by rw [rndsR]; exact ⟨Nat.le_refl _, fun p hp => by cases hp⟩
  | g + 1, mn, mx, a, b, hb => by
    rw [rndsR]
    split
    · obtain ⟨h1, h2⟩ := rnds_small hf g (max (mn - 1) 0) (if 0 < mx then mx - 1 else mx) (cutK R (rpR R (max (mn - 1) 0) (if 0 < mx then mx - 1 else mx)) (if mn = 0 then a + 1 else a) a b) b hb
      refine ⟨Nat.succ_le_succ h1, fun p hp => ?_⟩
      rcases List.mem_cons.1 hp with rfl | hp
      · exact hf _ _ (Nat.le_trans (cutK_le _ _ _ _ _) hb)
      · exact h2 p hp
    · exact ⟨Nat.zero_le _, fun p hp => by cases hp⟩
theorem rep_small {f : Nat → Nat → Ps} {R : Rl} {n : Nat} (hf : ∀ a b, b ≤ n → smallP (f a b)) (bare : Bool) (mn mx : Int) (hm : mn ≤ 255) (a b : Nat) (hb : b ≤ n) (hn : n ≤ 900000) : (repR f R bare mn mx a b).length ≤ 1000000 ∧ ∀ p ∈ repR f R bare mn mx a b, smallP p := by
  unfold repR
  split
  · exact ⟨Nat.zero_le _, fun p hp => by cases hp⟩
  · split
    · split
      · exact ⟨by simp, fun p hp => by rw [List.mem_singleton] at hp; subst hp; exact hf _ _ hb⟩
      · exact ⟨Nat.zero_le _, fun p hp => by cases hp⟩
    · obtain ⟨h1, h2⟩ := rnds_small (R := R) hf (mn.toNat + (b - a)) mn mx a b hb
      exact ⟨by omega, h2⟩
section
variable {L : Hd → Int → Int → Bool} {n : Nat}
theorem bestS_small : ∀ (l : List Nd) (a b : Nat), (∀ t ∈ l, ∀ a b, b ≤ n → smallP (bestN L t a b)) → b ≤ n → (bestS L l a b).length = l.length ∧ ∀ p ∈ bestS L l a b, smallP p
  | [], a, b, _, _ => by rw [bestS]; exact ⟨rfl, fun p hp => by cases hp⟩
  | t :: r, a, b, ih, hb => by
    rw [bestS]
    obtain ⟨h1, h2⟩ := bestS_small r (cutK (tkN L t) (tkS L r) a a b) b (fun t ht => ih t (by simp [ht])) hb
    refine ⟨by rw [List.length_cons, h1, List.length_cons], fun p hp => ?_⟩
    rcases List.mem_cons.1 hp with rfl | hp
    · exact ih t (by simp) _ _ (Nat.le_trans (cutK_le _ _ _ _ _) hb)
    · exact h2 p hp
theorem bestA_small : ∀ (l : List Nd) (a b : Nat), (∀ t ∈ l, ∀ a b, b ≤ n → smallP (bestN L t a b)) → b ≤ n → smallP (bestA L l a b)
  | [], a, b, _, _ => by rw [bestA]; exact ⟨Nat.zero_le _, trivial⟩
  | t :: r, a, b, ih, hb => by
    rw [bestA]
    split
    · exact ih t (by simp) a b hb
    · exact bestA_small r a b (fun t ht => ih t (by simp [ht])) hb
theorem best_small (hn : n ≤ 900000) : ∀ t : Nd, formB t = true → smallN t → ∀ a b : Nat, b ≤ n → smallP (bestN L t a b) := Nd.ind fun h subs ih hf hsm a b hb => by
  have IH : ∀ t ∈ subs, ∀ a b, b ≤ n → smallP (bestN L t a b) := fun t ht => ih t ht (form_sub hf t ht) (smallL_mem hsm.2 t ht)
  have key : ∀ (d : Pd) (ls : List Ps), ls.length ≤ 1000000 → (∀ p ∈ ls, smallP p) → smallP (.mk d ls) := fun d ls h1 h2 => ⟨h1, smallPL_of h2⟩
  rw [bestN]
  by_cases h1 : h.kind = 6 ∨ h.kind = 7
  · rw [if_pos h1]
    exact key _ _ (by simp) (fun p hp => by rw [List.mem_singleton] at hp; subst hp; exact bestA_small subs a b IH hb)
  · rw [if_neg h1]
    by_cases h2 : h.kind = 5
    · rw [if_pos h2]
      obtain ⟨h3, h4⟩ := bestS_small subs a b IH hb
      exact key _ _ (by rw [h3]; exact hsm.1) h4
    · rw [if_neg h2]
      by_cases h3 : h.kind = 8
      · rw [if_pos h3]
        have hm : h.min ≤ 255 := by
          rcases form_cases hf with q | q | q | q | q | q | q | q
          all_goals first | exact q.2.2.2.1 | omega
        obtain ⟨h4, h5⟩ := rep_small (f := fun x y => bestA L subs x y) (R := fun x y => tkA L subs x y) (n := n) (fun a b hb => bestA_small subs a b IH hb) h.bare h.min h.max hm a b hb hn
        exact key _ _ h4 h5
      · rw [if_neg h3]
        exact key _ _ (by simp) (fun p hp => by cases hp)
end
theorem lfR_leaf {s : ByteArray} {c e : Int} (h : Hd) (a b : Int) (hl : lfR s c e false h a b = true) : leafB s c e h a b = true := by
  unfold lfR at hl
  simp only [Bool.and_eq_true, decide_eq_true_eq] at hl
  obtain ⟨⟨h1, h2⟩, h3⟩ := hl
  unfold leafB
  split at h3
  · rename_i hk; rw [if_pos hk]; exact h3
  · rename_i hk
    rw [if_neg hk]
    split at h3
    · rename_i hk; rw [if_pos hk]; exact h3
    · rename_i hk
      rw [if_neg hk]
      split at h3
      · rename_i hk
        rw [if_pos hk]
        simp only [Bool.and_eq_true, decide_eq_true_eq] at h3 ⊢
        refine ⟨h3.1, ?_⟩
        have := h3.2
        unfold srByte at this
        rw [if_pos ⟨h1, h3.1.1⟩] at this
        simpa using this
      · rename_i hk; rw [if_neg hk]; exact h3
theorem best_parse {s : ByteArray} {c e : Int} (t : Nd) (hf : formB t = true) (a b : Nat) (ht : tkN (lfR s c e false) t a b) (hb : b ≤ s.size) : parseN s.size (leafB s c e) (bestN (lfR s c e false) t a b) t = true :=
  best_ok (lfR_ok s c e false) lfR_leaf t hf a b ht hb

end Go.Proofs.YtgfknlkpdiejgaaGreatDoor
