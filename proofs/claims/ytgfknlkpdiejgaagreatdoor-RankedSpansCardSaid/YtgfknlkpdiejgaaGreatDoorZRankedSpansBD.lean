/- trawlref04.Depth as a contract. Condition: the tree lies in memory, it has few nodes. trawlref04.Check as a contract: the number of tree.Check's error. Condition: the tree lies in memory, it has few nodes. trawlref12.Check as a contract. Condition: tree and parse lie in memory, the tree has few nodes; the subject has at most a million bytes. trawlref12.numbers as a contract: the numbers of all groups of a tree, as new memory. Condition: the tree lies in memory, it has few nodes. -/
import Derived.Test.YtgfknlkpdiejgaaGreatDoorZRankedSpansAG
import Derived.Test.YtgfknlkpdiejgaaGreatDoorZRankedSpansAC
import Derived.Test.YtgfknlkpdiejgaaGreatDoorZRankedSpansAF
import Derived.Test.YtgfknlkpdiejgaaGreatDoorZRankedSpansAE
import Derived.Test.YtgfknlkpdiejgaaGreatDoorZRankedSpansBC
import Derived.Test.YtgfknlkpdiejgaaGreatDoorZRankedSpansAR
import Derived.Test.YtgfknlkpdiejgaaGreatDoorZRankedSpansAU
namespace Go.Proofs.YtgfknlkpdiejgaaGreatDoor
open Go Go.RowKit

set_option maxRecDepth 100000 in
set_option maxHeartbeats 8000000 in
theorem depth04_any : ∀ (n : Nd) (sv : Value) (w : World) (m : Int), NdOk w n sv → m ≤ 1000000 → 0 ≤ leftN n m →
    Calls Tryz.prog 56 #[nodeV n.h sv] w fun r w' => r = .returned (.int .i64 (depthN n)) ∧ Ext w w' := by
  refine Nd.ind fun hd subs ih sv w m hn hm1 hfew => ?_
  obtain ⟨A, c, rfl⟩ := hn.shape
  have hrange := depthN_few (.mk hd subs) m hfew
  have hlr : leftN (.mk hd subs) m = leftL subs (m - 1) := by rw [leftN]
  rw [hlr] at hfew hrange
  have hlen := leftL_len subs (m - 1) hfew
  have IH := Lib.hid ih
  have HN := Lib.hid hn
  have HFW := Lib.hid hfew
  have HZ := Lib.hid (show depthN (.mk hd subs) = depthA 0 subs + (if deepB hd subs.length = true then 1 else 0) + 1 by rw [depthN])
  clear ih hlr hn
  generalize depthN (.mk hd subs) = ss at *
  simp only [Nd.h, Nd.subs] at *
  go_enter Tryz.func56, Tryz.ntmps56
  go_upto_region 1 with (refine wpl_boxNd rfl _ rfl hd _ rfl ?_; intro b w1 hb hx1 eb sb)
  have c0 : w1.cell? ⟨b, 0, none⟩ = some (.int .i64 hd.kind) := hb.cell 0
  have c5 : w1.cell? ⟨b, 5, none⟩ = some (.slice A subs.length c) := hb.cell 5
  have c7 : w1.cell? ⟨b, 7, none⟩ = some (.int .i64 hd.min) := hb.cell 7
  have c8 : w1.cell? ⟨b, 8, none⟩ = some (.int .i64 hd.max) := hb.cell 8
  have HDB := Lib.hid (show deepB hd subs.length = (decide (hd.kind = 8) && decide (0 < subs.length) && (decide (hd.min ≠ 0) || (decide (hd.max ≠ 1) && decide (hd.max ≠ -1)))) from rfl)
  generalize deepB hd subs.length = db at *
  generalize hd.kind = kind at *
  generalize hd.min = mn at *
  generalize hd.max = mx at *
  have hx11 : Ext w1 w1 := Ext.refl w1
  clear hb
  go_wp2
  go_loopw [3, 4] (fun a i wr => ∃ k : Nat, k ≤ subs.length ∧ i = .int .i64 k ∧ a = .int .i64 (depthA 0 (subs.take k)) ∧ Ext w1 wr) (fun _ i _ => subs.length - (intOf i).toNat)
  case atStart => exact ⟨0, Nat.zero_le _, rfl, by rw [List.take_zero, depthA], hx11⟩
  case round =>
    clear hx11
    obtain ⟨k, hk', rfl, rfl, hx⟩ := hrel
    have hxw := hx1.trans hx
    by_cases hlt : k < subs.length
    · obtain ⟨g0, o0, sv, rfl, hat, hok⟩ := HN.out.get k hlt
      have hpre : 0 ≤ leftL (subs.take k) (m - 1) := by
        have h1 := HFW.out
        rw [← List.take_append_drop k subs, leftL_app] at h1
        rcases Int.lt_or_le (leftL (subs.take k) (m - 1)) 0 with h | h
        · rw [leftL_neg _ _ h] at h1; omega
        · exact h
      have hpre1 : 0 ≤ leftL (subs.take (k + 1)) (m - 1) := by
        have h1 := HFW.out
        rw [← List.take_append_drop (k + 1) subs, leftL_app] at h1
        rcases Int.lt_or_le (leftL (subs.take (k + 1)) (m - 1)) 0 with h | h
        · rw [leftL_neg _ _ h] at h1; omega
        · exact h
      rw [take_snoc subs k hlt, leftL_app, leftL_one _ _ hpre] at hpre1
      have hle := leftL_len (subs.take k) (m - 1) hpre
      replace hat := hat.ext hxw
      have c5' := hx.cell c5
      have IHk := Lib.hid (IH.out subs[k] (List.getElem_mem hlt) sv wr _ (NdOk.ext hxw _ _ hok) (by omega) hpre1)
      have HST := Lib.hid (show depthA 0 (subs.take (k + 1)) = Max.max (depthA 0 (subs.take k)) (depthN subs[k]) by rw [take_snoc subs k hlt, depthA_app, depthA, depthA])
      clear IH HN HFW hok hpre hpre1 hle c0 c5 c7 c8 HDB HZ
      generalize depthN subs[k] = res at *
      generalize depthA 0 (subs.take k) = acc at *
      generalize subs[k] = nk at *
      have t1 : (k : Int) < (subs.length : Int) := by omega
      go_wp2_with (first
        | (refine wpl_loadNd rfl _ rfl g0 (o0 + k * 10) nk.h sv rfl hat ?_)
        | (go_at_call 56; refine IHk.out.mono ?_; rintro e w6 ⟨rfl, hx6⟩))
      go_roundw
      case rel => exact ⟨k + 1, by omega, by go_num, by rw [HST.out, max_if], hx.trans hx6⟩
      case measure => simp [intOf]; omega
    · have hkl : subs.take k = subs := List.take_of_length_le (by omega)
      rw [hkl]
      have ht := depthA_few subs (m - 1) 0 HFW.out (by omega)
      have hl0 := HFW.out
      generalize depthA 0 subs = tot at *
      have t0 : 0 ≤ tot := by omega
      have t1 : tot ≤ 2000000 := by omega
      have q1 : IntKind.i64.wrap (tot + 1) = tot + 1 := by rw [IntKind.wrap_i64]; omega
      have q2 : IntKind.i64.wrap (tot + 2) = tot + 2 := by rw [IntKind.wrap_i64]; omega
      replace c0 := hx.cell c0
      replace c5 := hx.cell c5
      replace c7 := hx.cell c7
      replace c8 := hx.cell c8
      have d1 : ¬ (k : Int) < (subs.length : Int) := by omega
      have hcs : (ss = tot + 2 ∧ kind = 8 ∧ (0 : Int) < (subs.length : Int) ∧ mn ≠ 0) ∨ (ss = tot + 2 ∧ kind = 8 ∧ (0 : Int) < (subs.length : Int) ∧ mn = 0 ∧ mx ≠ 1 ∧ mx ≠ -1) ∨
          (ss = tot + 1 ∧ mn = 0 ∧ mx = 1) ∨ (ss = tot + 1 ∧ mn = 0 ∧ mx = -1) ∨ (ss = tot + 1 ∧ kind ≠ 8 ∧ mn ≠ 0) ∨ (ss = tot + 1 ∧ kind ≠ 8 ∧ mn = 0 ∧ mx ≠ 1 ∧ mx ≠ -1) ∨
          (ss = tot + 1 ∧ kind = 8 ∧ ¬ (0 : Int) < (subs.length : Int) ∧ mn ≠ 0) ∨ (ss = tot + 1 ∧ kind = 8 ∧ ¬ (0 : Int) < (subs.length : Int) ∧ mn = 0 ∧ mx ≠ 1 ∧ mx ≠ -1) := by
        have hz := HZ.out
        have hdb := HDB.out
        by_cases s1 : mn = 0
        · by_cases s2 : mx = 1
          · simp [s1, s2] at hdb
            rw [hdb] at hz
            exact .inr (.inr (.inl ⟨by simpa using hz, s1, s2⟩))
          · by_cases s3 : mx = -1
            · simp [s1, s3] at hdb
              rw [hdb] at hz
              exact .inr (.inr (.inr (.inl ⟨by simpa using hz, s1, s3⟩)))
            · by_cases s4 : kind = 8
              · by_cases s5 : 0 < subs.length
                · simp [s1, s2, s3, s4, s5] at hdb
                  rw [hdb] at hz
                  exact .inr (.inl ⟨by simp at hz; omega, s4, by omega, s1, s2, s3⟩)
                · simp [s5] at hdb
                  rw [hdb] at hz
                  exact .inr (.inr (.inr (.inr (.inr (.inr (.inr ⟨by simpa using hz, s4, by omega, s1, s2, s3⟩))))))
              · simp [s4] at hdb
                rw [hdb] at hz
                exact .inr (.inr (.inr (.inr (.inr (.inl ⟨by simpa using hz, s4, s1, s2, s3⟩)))))
        · by_cases s4 : kind = 8
          · by_cases s5 : 0 < subs.length
            · simp [s1, s4, s5] at hdb
              rw [hdb] at hz
              exact .inl ⟨by simp at hz; omega, s4, by omega, s1⟩
            · simp [s5] at hdb
              rw [hdb] at hz
              exact .inr (.inr (.inr (.inr (.inr (.inr (.inl ⟨by simpa using hz, s4, by omega, s1⟩))))))
          · simp [s4] at hdb
            rw [hdb] at hz
            exact .inr (.inr (.inr (.inr (.inl ⟨by simpa using hz, s4, s1⟩))))
      clear IH HN HFW ht hl0 hrange HZ HDB hkl
      rcases hcs with ⟨hs, rfl, hl, h1⟩ | ⟨hs, rfl, hl, rfl, h2, h3⟩ | ⟨hs, rfl, rfl⟩ | ⟨hs, rfl, rfl⟩ | ⟨hs, h4, h1⟩ | ⟨hs, h4, rfl, h2, h3⟩ | ⟨hs, rfl, hl, h1⟩ | ⟨hs, rfl, hl, rfl, h2, h3⟩
      all_goals
        have HS := Lib.hid hs
        clear hs
        try have n1 : (mn == 0) = false := by simpa using h1
        try have n2 : (mx == 1) = false := by simpa using h2
        try have n3 : (mx == -1) = false := by simpa using h3
        try have n4 : (kind == 8) = false := by simpa using h4
        go_wp2
        all_goals
          go_ret
          exact ⟨by rw [HS.out]; rfl, hx1.trans hx⟩

end Go.Proofs.YtgfknlkpdiejgaaGreatDoor

namespace Go.Proofs.YtgfknlkpdiejgaaGreatDoor
open Go Go.RowKit

set_option maxRecDepth 100000 in
set_option maxHeartbeats 4000000 in
theorem check04_any (n : Nd) (sv : Value) (w : World) (m : Int) (hn : NdOk w n sv) (hm : m ≤ 1000000) (hfew : 0 ≤ leftN n m) :
    Calls Tryz.prog 29 #[nodeV n.h sv] w fun r w' => r = .returned (.int .i64 (chkN n)) ∧ Ext w w' := by
  have hsm := small_left n m hm hfew
  have H1 := Lib.hid (fun W (hW : Ext w W) => form04_any n sv W (hn.ext hW) hsm)
  have H2 := Lib.hid (fun W (hW : Ext w W) => depth04_any n sv W m (hn.ext hW) hm hfew)
  have H3 := Lib.hid (fun W (hW : Ext w W) (hf : formB n = true) => size04_any n sv W (hn.ext hW) hsm hf)
  have HR := Lib.hid (show chkN n = if formB n = false then 13 else if 200 < depthN n then 14 else if 2000 < sizeN n then 10 else 0 from rfl)
  clear hn hm hfew hsm
  generalize chkN n = ck at *
  generalize depthN n = dn at *
  generalize sizeN n = sn at *
  generalize formB n = fb at *
  generalize n.h = hd at *
  go_enter Tryz.func29, Tryz.ntmps29
  go_upto_region 1 with (refine wpl_boxNd rfl _ rfl hd _ rfl ?_; intro b w1 hb hx1 eb sb)
  cases fb
  · have HR2 := Lib.hid (HR.out.trans (if_pos rfl))
    clear HR H2 H3
    go_wp2_with (first
      | (refine wpl_loadNd rfl _ rfl b 0 hd _ rfl hb.nd ?_)
      | (go_at_call 40; refine (H1.out _ hx1).mono ?_; rintro e w2 ⟨rfl, hx2⟩))
    go_ret
    exact ⟨by rw [HR2.out]; rfl, hx1.trans hx2⟩
  have HR1 := Lib.hid (HR.out.trans (if_neg (by decide)))
  have H3' := Lib.hid (fun W hW => H3.out W hW rfl)
  clear HR H3
  by_cases hd1 : 200 < dn
  · have HR2 := Lib.hid (HR1.out.trans (if_pos hd1))
    clear HR1 H3'
    go_wp2_with (first
      | (refine wpl_loadNd rfl _ rfl b 0 hd _ rfl hb.nd ?_)
      | (go_at_call 40; refine (H1.out _ hx1).mono ?_; rintro e w2 ⟨rfl, hx2⟩)
      | (refine wpl_loadNd rfl _ rfl b 0 hd _ rfl (hb.ext hx2).nd ?_)
      | (go_at_call 56; refine (H2.out _ (hx1.trans hx2)).mono ?_; rintro e w3 ⟨rfl, hx3⟩))
    go_ret
    exact ⟨by rw [HR2.out]; rfl, (hx1.trans hx2).trans hx3⟩
  have HR3 := Lib.hid (HR1.out.trans (if_neg hd1))
  clear HR1
  by_cases hd2 : 2000 < sn
  all_goals
    go_wp2_with (first
      | (refine wpl_loadNd rfl _ rfl b 0 hd _ rfl hb.nd ?_)
      | (go_at_call 40; refine (H1.out _ hx1).mono ?_; rintro e w2 ⟨rfl, hx2⟩)
      | (refine wpl_loadNd rfl _ rfl b 0 hd _ rfl (hb.ext hx2).nd ?_)
      | (go_at_call 56; refine (H2.out _ (hx1.trans hx2)).mono ?_; rintro e w3 ⟨rfl, hx3⟩)
      | (refine wpl_loadNd rfl _ rfl b 0 hd _ rfl (hb.ext (hx2.trans hx3)).nd ?_)
      | (go_at_call 41; refine (H3'.out _ ((hx1.trans hx2).trans hx3)).mono ?_; rintro e w4 ⟨rfl, hx4⟩))
    go_ret
    exact ⟨by rw [HR3.out]; first | (rw [if_pos hd2]; rfl) | (rw [if_neg (by omega)]; rfl), ((hx1.trans hx2).trans hx3).trans hx4⟩

end Go.Proofs.YtgfknlkpdiejgaaGreatDoor

namespace Go.Proofs.YtgfknlkpdiejgaaGreatDoor
open Go Go.RowKit

section
variable {s : ByteArray} {c e : Int}
end

end Go.Proofs.YtgfknlkpdiejgaaGreatDoor

namespace Go.Proofs.YtgfknlkpdiejgaaGreatDoor
open Go Go.RowKit

mutual
def numsN : Nd → List Int
  | .mk h subs => (if h.kind = 7 then [h.num] else []) ++ numsL subs
def numsL : List Nd → List Int
  | [] => []
  | n :: r => numsN n ++ numsL r
end
theorem numsL_snoc : ∀ (a : List Nd) (n : Nd), numsL (a ++ [n]) = numsL a ++ numsN n
  | [], n => by simp [numsL]
  | x :: a, n => by
    show numsL (x :: (a ++ [n])) = _
    rw [numsL, numsL, numsL_snoc a n, List.append_assoc]
mutual
theorem numsN_few : ∀ (n : Nd) (m : Int), 0 ≤ leftN n m → (numsN n).length ≤ m - leftN n m
  | .mk h subs, m, hl => by
    unfold leftN at hl ⊢
    have := numsL_few subs (m - 1) hl
    unfold numsN
    rw [List.length_append]
    split <;> simp <;> omega
theorem numsL_few : ∀ (l : List Nd) (m : Int), 0 ≤ leftL l m → (numsL l).length ≤ m - leftL l m
  | [], m, hl => by unfold leftL numsL; simp
  | n :: r, m, hl => by
    by_cases hm : 0 ≤ m
    · rw [leftL, if_pos hm] at hl ⊢
      have h2 : 0 ≤ leftN n m := by
        rcases Int.lt_or_le (leftN n m) 0 with h3 | h3
        · rw [leftL_neg _ _ h3] at hl; omega
        · exact h3
      have h3 := numsN_few n m h2
      have h5 := numsL_few r (leftN n m) hl
      rw [numsL, List.length_append]
      omega
    · rw [leftL_neg _ _ (by omega)] at hl
      omega
end
/-- What numbers answers. -/
def RetNums (w : World) (l : List Int) (r : Ending) (w' : World) : Prop := ∃ v, r = .returned v ∧ Own1 w' w.heap.size 3 v (cI l) ∧ Ext w w'

theorem own_src {w : World} {B : Nat} {t : TypeId} {v : Value} {xs : List Value} (h : Own1 w B t v xs) : (v = .slice none 0 0 ∧ xs = []) ∨ ∃ ad c, v = .slice (some ad) xs.length c ∧ ∀ j u, xs[j]? = some u → w.cell? (ad.add j) = some u := by
  rcases h.slice with h1 | ⟨g, cap, cur, rfl, _⟩
  · exact .inl h1
  · refine .inr ⟨⟨g, 0, none⟩, cap, rfl, fun j u hj => ?_⟩
    have ea : (⟨g, 0, none⟩ : Addr).add j = ⟨g, j, none⟩ := by unfold Addr.add; split <;> simp_all
    rw [ea]
    exact h.cells.2 j u hj
theorem cI_one (l : List Int) : ∀ u ∈ cI l, u.oneCell' = true := by
  intro u hu
  simp only [cI, List.mem_map] at hu
  obtain ⟨x, _, rfl⟩ := hu
  rfl
theorem cI_app (a b : List Int) : cI a ++ cI b = cI (a ++ b) := by simp [cI]
theorem numsL_len (subs : List Nd) (k : Nat) : (numsL (subs.take k)).length ≤ (numsL subs).length := by
  conv => rhs; rw [← List.take_append_drop k subs]
  generalize subs.take k = a
  generalize subs.drop k = b
  induction a with
  | nil => simp [numsL]
  | cons x a ih =>
    show (numsL (x :: a)).length ≤ (numsL (x :: (a ++ b))).length
    rw [numsL, numsL, List.length_append, List.length_append]
    omega

set_option maxRecDepth 100000 in
set_option maxHeartbeats 4000000 in
theorem numbers_any : ∀ (n : Nd) (sv : Value) (w : World), NdOk w n sv → (numsN n).length ≤ 1000000 → smallN n →
    Calls Tryz.prog 80 #[nodeV n.h sv] w (RetNums w (numsN n)) := by
  refine Nd.ind fun h subs ih sv w hn hlen hsm => ?_
  obtain ⟨A, c, rfl⟩ := hn.shape
  obtain ⟨hsl, hsml⟩ := hsm
  simp only [Nd.subs] at *
  rw [numsN] at hlen
  show Calls _ _ #[nodeV h _] _ _
  have HR := Lib.hid (by rw [numsN] : numsN (.mk h subs) = (if h.kind = 7 then [h.num] else []) ++ numsL subs)
  have IH := Lib.hid (fun n hm sv w hn hl => ih n hm sv w hn hl (smallL_mem hsml n hm))
  have HN := Lib.hid hn
  obtain ⟨l0, HL0⟩ : ∃ l0, Hid (l0 = if h.kind = 7 then [h.num] else []) := ⟨_, Lib.hid rfl⟩
  rw [← HL0.out] at HR hlen
  rw [List.length_append] at hlen
  generalize numsN (.mk h subs) = res at *
  have hl0 : l0.length ≤ 1 := by rw [HL0.out]; split <;> simp
  clear ih hn hsml
  go_enter Tryz.func80, Tryz.ntmps80
  go_upto_region 1 with (refine wpl_boxNd rfl _ rfl h _ rfl ?_; intro z w1 hb hx1 ez sz)
  have n0 : w1.cell? ⟨z, 0, none⟩ = some (.int .i64 h.kind) := hb.cell 0
  have n5 : w1.cell? ⟨z, 5, none⟩ = some (.slice A subs.length c) := hb.cell 5
  have n6 : w1.cell? ⟨z, 6, none⟩ = some (.int .i64 h.num) := hb.cell 6
  clear hb ez sz
  have hO0 : Own1 w1 w1.heap.size 3 (.slice none 0 0) (cI []) := Own1.nil _ _ _
  by_cases t : h.kind = 7
  case' pos =>
    have HL1 := Lib.hid (HL0.out.trans (if_pos t))
    rw [t] at n0
    clear HL0 t
    go_upto_region 4 with (at_builtin; refine wpList_app1 rfl (.tmp 8) (.tmp 11) 90 rfl w1.heap.size 3 (.int .i64 0) 8 Tryz.underlying90 info_int rfl (.slice none 0 0) (cI []) rfl (hO0.ext ((Ext.refl w1).alloc _)) w1.heap.size 1 (.int .i64 h.num) rfl (by rw [(Blk.new w1 _ _).cell]; rfl) rfl (by simp) (by simp) (by simp) ?_; intro v2 w2 hO2 hb2)
    have hx2 : Ext w1 w2 := Ext.of_below ((Ext.refl w1).alloc _) hb2 (Nat.le_refl _)
    have hO3 : Own1 w2 w1.heap.size 3 v2 (cI l0) := by rw [HL1.out]; exact hO2
    clear hO2 hb2 HL1 n0 n6 hO0
    have n52 := hx2.cell n5
  case' neg =>
    have HL1 := Lib.hid (HL0.out.trans (if_neg t))
    have t2 : (h.kind == 7) = false := by simpa using t
    clear HL0 t
    generalize h.kind = kind at *
    go_upto_region 4 with fail
    have hO3 : Own1 w1 w1.heap.size 3 (.slice none 0 0) (cI l0) := by rw [HL1.out]; exact hO0
    have hx2 : Ext w1 w1 := Ext.refl w1
    have n52 := n5
    clear HL1 n0 n6 hO0 t2
  all_goals
    have hO4 := Lib.hid hO3
    clear hO3
    go_wp2
    go_loopw [3, 4] (fun v i wr => ∃ k : Nat, k ≤ subs.length ∧ i = .int .i64 k ∧ Own1 wr w1.heap.size 3 v (cI (l0 ++ numsL (subs.take k))) ∧ Ext w1 wr) (fun _ i _ => subs.length - (intOf i).toNat)
    case atStart => exact ⟨0, Nat.zero_le _, rfl, by rw [List.take_zero, numsL, List.append_nil]; exact hO4.out, hx2⟩
    case round =>
      clear n52 hO4 hx2
      obtain ⟨k, hk, rfl, hO, hx⟩ := hrel
      have hxw := hx1.trans hx
      have c5 := hx.cell n5
      clear n5
      by_cases hlt : k < subs.length
      · obtain ⟨g, o, sv', rfl, hat, hok⟩ := HN.out.get k hlt
        have hat' := hat.ext hxw
        have hst : numsL (subs.take (k + 1)) = numsL (subs.take k) ++ numsN subs[k] := by rw [take_snoc subs k hlt, numsL_snoc]
        have hb1 := numsL_len subs (k + 1)
        rw [hst, List.length_append] at hb1
        have HST := Lib.hid (show cI (l0 ++ numsL (subs.take k)) ++ cI (numsN subs[k]) = cI (l0 ++ numsL (subs.take (k + 1))) by rw [cI_app, hst, List.append_assoc])
        have IHk := Lib.hid (IH.out subs[k] (List.getElem_mem hlt) sv' wr (hok.ext hxw) (by omega))
        have hb2 : (l0 ++ numsL (subs.take k)).length ≤ 1000001 := by rw [List.length_append]; omega
        have hb3 : (numsN subs[k]).length ≤ 1000000 := by omega
        have t1 : (k : Int) < (subs.length : Int) := by omega
        clear hat hok hst IH HN HR hb1
        generalize numsN subs[k] = nk at *
        generalize l0 ++ numsL (subs.take k) = lk at *
        generalize hhn : subs[k].h = hn at *
        clear hhn
        go_upto_region 6 with (first
          | (refine wpl_loadNd rfl _ rfl g (o + k * 10) hn sv' rfl hat' ?_)
          | (go_at_call 80; refine IHk.out.mono ?_; rintro e w5 ⟨v5, rfl, hO5, hx5⟩)
          | (at_builtin; refine wpList_appK rfl (.tmp 20) (.tmp 26) 90 rfl w1.heap.size 3 (.int .i64 0) 8 Tryz.underlying90 info_int rfl u3 (cI lk) (cI nk) rfl (hO.ext hx5) (own_src hO5) (cI_one _) (by rw [cI_len, cI_len]; omega) (by rw [cI_len, cI_len]; omega) (hx.trans hx5).size ?_; intro v6 w6 hO6 hg6 _ _))
        rw [HST.out] at hO6
        have hx6 : Ext w1 w6 := (hx.trans hx5).grown hg6 (fun i hi => (hO.own i hi).1)
        clear hg6 hO hO5 hx5 hx hxw c5 hat' IHk
        go_wp2
        go_roundw
        case rel => exact ⟨k + 1, by omega, by go_num, hO6, hx6⟩
        case measure => simp [intOf]; omega
      · have hkl : subs.take k = subs := List.take_of_length_le (by omega)
        rw [hkl] at hO
        have t1 : ¬ (k : Int) < (subs.length : Int) := by omega
        clear IH HN hkl
        go_wp2
        go_ret
        exact ⟨_, rfl, by rw [HR.out]; exact hO.mono hx1.size, hxw⟩

end Go.Proofs.YtgfknlkpdiejgaaGreatDoor
