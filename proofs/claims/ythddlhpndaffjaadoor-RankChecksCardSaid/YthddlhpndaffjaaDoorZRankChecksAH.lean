/- trawlref12.numbers as a contract: the numbers of all groups of a tree, as new memory. Condition: the tree lies in memory, it has few nodes. Plain: setting the numbers of a tree's groups one by one to unset is what unsetting the tree does. trawlref12.laid as a contract. Condition: tree and parse lie in memory, the parse is one of the tree. trawlref12.Laid and trawlref12.Spans as contracts. Condition: tree and parse lie in memory, the tree has few nodes; the subject has at most a million bytes. -/
import Derived.Test.YthddlhpndaffjaaDoorZRankChecksAG
import Derived.Test.YthddlhpndaffjaaDoorZRankChecksAB
import Derived.Test.YthddlhpndaffjaaDoorSpW
import Derived.Test.YthddlhpndaffjaaDoorZRankChecksAD
import Derived.Test.YthddlhpndaffjaaDoorWalk
namespace Go.Proofs.YthddlhpndaffjaaDoor
open Go Go.RowKit

mutual
def numsN : Nd → List Int
  | .mk h subs => (if h.kind = 7 then [h.num] else []) ++ numsL subs
def numsL : List Nd → List Int
  | [] => []
  | n :: r => numsN n ++ numsL r
end
theorem numsL_snoc : ∀ (a : List Nd) (n : Nd), numsL (a ++ [n]) = numsL a ++ numsN n
  | [], n => by simp [numsL]
  | x :: a, n => by
    show numsL (x :: (a ++ [n])) = _
    rw [numsL, numsL, numsL_snoc a n, List.append_assoc]
mutual
theorem numsN_few : ∀ (n : Nd) (m : Int), 0 ≤ leftN n m → (numsN n).length ≤ m - leftN n m
  | .mk h subs, m, hl => by
    unfold leftN at hl ⊢
    have := numsL_few subs (m - 1) hl
    unfold numsN
    rw [List.length_append]
    split <;> simp <;> omega
theorem numsL_few : ∀ (l : List Nd) (m : Int), 0 ≤ leftL l m → (numsL l).length ≤ m - leftL l m
  | [], m, hl => by unfold leftL numsL; simp
  | n :: r, m, hl => by
    by_cases hm : 0 ≤ m
    · rw [leftL, if_pos hm] at hl ⊢
      have h2 : 0 ≤ leftN n m := by
        rcases Int.lt_or_le (leftN n m) 0 with h3 | h3
        · rw [leftL_neg _ _ h3] at hl; omega
        · exact h3
      have h3 := numsN_few n m h2
      have h5 := numsL_few r (leftN n m) hl
      rw [numsL, List.length_append]
      omega
    · rw [leftL_neg _ _ (by omega)] at hl
      omega
end
/-- What numbers answers. -/
def RetNums (w : World) (l : List Int) (r : Ending) (w' : World) : Prop := ∃ v, r = .returned v ∧ Own1 w' w.heap.size 3 v (cI l) ∧ Ext w w'

theorem own_src {w : World} {B : Nat} {t : TypeId} {v : Value} {xs : List Value} (h : Own1 w B t v xs) : (v = .slice none 0 0 ∧ xs = []) ∨ ∃ ad c, v = .slice (some ad) xs.length c ∧ ∀ j u, xs[j]? = some u → w.cell? (ad.add j) = some u := by
  rcases h.slice with h1 | ⟨g, cap, cur, rfl, _⟩
  · exact .inl h1
  · refine .inr ⟨⟨g, 0, none⟩, cap, rfl, fun j u hj => ?_⟩
    have ea : (⟨g, 0, none⟩ : Addr).add j = ⟨g, j, none⟩ := by unfold Addr.add; split <;> simp_all
    rw [ea]
    exact h.cells.2 j u hj
theorem cI_one (l : List Int) : ∀ u ∈ cI l, u.oneCell' = true := by
  intro u hu
  simp only [cI, List.mem_map] at hu
  obtain ⟨x, _, rfl⟩ := hu
  rfl
theorem cI_app (a b : List Int) : cI a ++ cI b = cI (a ++ b) := by simp [cI]
theorem numsL_len (subs : List Nd) (k : Nat) : (numsL (subs.take k)).length ≤ (numsL subs).length := by
  conv => rhs; rw [← List.take_append_drop k subs]
  generalize subs.take k = a
  generalize subs.drop k = b
  induction a with
  | nil => simp [numsL]
  | cons x a ih =>
    show (numsL (x :: a)).length ≤ (numsL (x :: (a ++ b))).length
    rw [numsL, numsL, List.length_append, List.length_append]
    omega

set_option maxRecDepth 100000 in
set_option maxHeartbeats 4000000 in
theorem numbers_any : ∀ (n : Nd) (sv : Value) (w : World), NdOk w n sv → (numsN n).length ≤ 1000000 → smallN n →
    Calls Tryd.prog 111 #[nodeV n.h sv] w (RetNums w (numsN n)) := by
  refine Nd.ind fun h subs ih sv w hn hlen hsm => ?_
  obtain ⟨A, c, rfl⟩ := hn.shape
  obtain ⟨hsl, hsml⟩ := hsm
  simp only [Nd.subs] at *
  rw [numsN] at hlen
  show Calls _ _ #[nodeV h _] _ _
  have HR := Lib.hid (by rw [numsN] : numsN (.mk h subs) = (if h.kind = 7 then [h.num] else []) ++ numsL subs)
  have IH := Lib.hid (fun n hm sv w hn hl => ih n hm sv w hn hl (smallL_mem hsml n hm))
  have HN := Lib.hid hn
  obtain ⟨l0, HL0⟩ : ∃ l0, Hid (l0 = if h.kind = 7 then [h.num] else []) := ⟨_, Lib.hid rfl⟩
  rw [← HL0.out] at HR hlen
  rw [List.length_append] at hlen
  generalize numsN (.mk h subs) = res at *
  have hl0 : l0.length ≤ 1 := by rw [HL0.out]; split <;> simp
  clear ih hn hsml
  go_enter Tryd.func111, Tryd.ntmps111
  go_upto_region 1 with (refine wpl_boxNd rfl _ rfl h _ rfl ?_; intro z w1 hb hx1 ez sz)
  have n0 : w1.cell? ⟨z, 0, none⟩ = some (.int .i64 h.kind) := hb.cell 0
  have n5 : w1.cell? ⟨z, 5, none⟩ = some (.slice A subs.length c) := hb.cell 5
  have n6 : w1.cell? ⟨z, 6, none⟩ = some (.int .i64 h.num) := hb.cell 6
  clear hb ez sz
  have hO0 : Own1 w1 w1.heap.size 3 (.slice none 0 0) (cI []) := Own1.nil _ _ _
  by_cases t : h.kind = 7
  case' pos =>
    have HL1 := Lib.hid (HL0.out.trans (if_pos t))
    rw [t] at n0
    clear HL0 t
    go_upto_region 4 with (at_builtin; refine wpList_app1 rfl (.tmp 8) (.tmp 11) 132 rfl w1.heap.size 3 (.int .i64 0) 8 Tryd.underlying132 info_int rfl (.slice none 0 0) (cI []) rfl (hO0.ext ((Ext.refl w1).alloc _)) w1.heap.size 1 (.int .i64 h.num) rfl (by rw [(Blk.new w1 _ _).cell]; rfl) rfl (by simp) (by simp) (by simp) ?_; intro v2 w2 hO2 hb2)
    have hx2 : Ext w1 w2 := Ext.of_below ((Ext.refl w1).alloc _) hb2 (Nat.le_refl _)
    have hO3 : Own1 w2 w1.heap.size 3 v2 (cI l0) := by rw [HL1.out]; exact hO2
    clear hO2 hb2 HL1 n0 n6 hO0
    have n52 := hx2.cell n5
  case' neg =>
    have HL1 := Lib.hid (HL0.out.trans (if_neg t))
    have t2 : (h.kind == 7) = false := by simpa using t
    clear HL0 t
    generalize h.kind = kind at *
    go_upto_region 4 with fail
    have hO3 : Own1 w1 w1.heap.size 3 (.slice none 0 0) (cI l0) := by rw [HL1.out]; exact hO0
    have hx2 : Ext w1 w1 := Ext.refl w1
    have n52 := n5
    clear HL1 n0 n6 hO0 t2
  all_goals
    have hO4 := Lib.hid hO3
    clear hO3
    go_wp2
    go_loopw [3, 4] (fun v i wr => ∃ k : Nat, k ≤ subs.length ∧ i = .int .i64 k ∧ Own1 wr w1.heap.size 3 v (cI (l0 ++ numsL (subs.take k))) ∧ Ext w1 wr) (fun _ i _ => subs.length - (intOf i).toNat)
    case atStart => exact ⟨0, Nat.zero_le _, rfl, by rw [List.take_zero, numsL, List.append_nil]; exact hO4.out, hx2⟩
    case round =>
      clear n52 hO4 hx2
      obtain ⟨k, hk, rfl, hO, hx⟩ := hrel
      have hxw := hx1.trans hx
      have c5 := hx.cell n5
      clear n5
      by_cases hlt : k < subs.length
      · obtain ⟨g, o, sv', rfl, hat, hok⟩ := HN.out.get k hlt
        have hat' := hat.ext hxw
        have hst : numsL (subs.take (k + 1)) = numsL (subs.take k) ++ numsN subs[k] := by rw [take_snoc subs k hlt, numsL_snoc]
        have hb1 := numsL_len subs (k + 1)
        rw [hst, List.length_append] at hb1
        have HST := Lib.hid (show cI (l0 ++ numsL (subs.take k)) ++ cI (numsN subs[k]) = cI (l0 ++ numsL (subs.take (k + 1))) by rw [cI_app, hst, List.append_assoc])
        have IHk := Lib.hid (IH.out subs[k] (List.getElem_mem hlt) sv' wr (hok.ext hxw) (by omega))
        have hb2 : (l0 ++ numsL (subs.take k)).length ≤ 1000001 := by rw [List.length_append]; omega
        have hb3 : (numsN subs[k]).length ≤ 1000000 := by omega
        have t1 : (k : Int) < (subs.length : Int) := by omega
        clear hat hok hst IH HN HR hb1
        generalize numsN subs[k] = nk at *
        generalize l0 ++ numsL (subs.take k) = lk at *
        generalize hhn : subs[k].h = hn at *
        clear hhn
        go_upto_region 6 with (first
          | (refine wpl_loadNd rfl _ rfl g (o + k * 10) hn sv' rfl hat' ?_)
          | (go_at_call 111; refine IHk.out.mono ?_; rintro e w5 ⟨v5, rfl, hO5, hx5⟩)
          | (at_builtin; refine wpList_appK rfl (.tmp 20) (.tmp 26) 132 rfl w1.heap.size 3 (.int .i64 0) 8 Tryd.underlying132 info_int rfl u3 (cI lk) (cI nk) rfl (hO.ext hx5) (own_src hO5) (cI_one _) (by rw [cI_len, cI_len]; omega) (by rw [cI_len, cI_len]; omega) (hx.trans hx5).size ?_; intro v6 w6 hO6 hg6 _ _))
        rw [HST.out] at hO6
        have hx6 : Ext w1 w6 := (hx.trans hx5).grown hg6 (fun i hi => (hO.own i hi).1)
        clear hg6 hO hO5 hx5 hx hxw c5 hat' IHk
        go_wp2
        go_roundw
        case rel => exact ⟨k + 1, by omega, by go_num, hO6, hx6⟩
        case measure => simp [intOf]; omega
      · have hkl : subs.take k = subs := List.take_of_length_le (by omega)
        rw [hkl] at hO
        have t1 : ¬ (k : Int) < (subs.length : Int) := by omega
        clear IH HN hkl
        go_wp2
        go_ret
        exact ⟨_, rfl, by rw [HR.out]; exact hO.mono hx1.size, hxw⟩

end Go.Proofs.YthddlhpndaffjaaDoor

namespace Go.Proofs.YthddlhpndaffjaaDoor
open Go Go.RowKit

def unsetI (g : Int) (l : List (Int × Int)) : List (Int × Int) := if g < l.length then l.set g.toNat (-1, -1) else l
def unsetNs : List Int → List (Int × Int) → List (Int × Int)
  | [], l => l
  | g :: r, l => unsetNs r (unsetI g l)
theorem unsetI_len (g : Int) (l : List (Int × Int)) : (unsetI g l).length = l.length := by
  unfold unsetI; split <;> simp
theorem unsetNs_len : ∀ (a : List Int) (l : List (Int × Int)), (unsetNs a l).length = l.length
  | [], l => by rw [unsetNs]
  | g :: r, l => by rw [unsetNs, unsetNs_len r, unsetI_len]
theorem unsetNs_app : ∀ (a b : List Int) (l : List (Int × Int)), unsetNs (a ++ b) l = unsetNs b (unsetNs a l)
  | [], b, l => by simp [unsetNs]
  | g :: a, b, l => by
    show unsetNs (g :: (a ++ b)) l = _
    rw [unsetNs, unsetNs, unsetNs_app a b]
theorem unsetNs_step {a : List Int} {k : Nat} (h : k < a.length) (l : List (Int × Int)) : unsetNs (a.take (k + 1)) l = unsetI a[k] (unsetNs (a.take k) l) := by
  rw [take_snoc a k h, unsetNs_app]
  rfl
mutual
theorem unsetNs_numsN : ∀ (n : Nd) (l : List (Int × Int)), unsetNs (numsN n) l = unsetN n l
  | .mk h subs, l => by
    rw [numsN, unsetNs_app, unsetNs_numsL subs, unsetN]
    congr 1
    by_cases h7 : h.kind = 7
    · simp [h7, unsetNs, unsetI]
    · simp [h7, unsetNs]
theorem unsetNs_numsL : ∀ (s : List Nd) (l : List (Int × Int)), unsetNs (numsL s) l = unsetL s l
  | [], l => by rw [numsL, unsetNs, unsetL]
  | n :: r, l => by rw [numsL, unsetNs_app, unsetNs_numsN n, unsetNs_numsL r, unsetL]
end
end Go.Proofs.YthddlhpndaffjaaDoor

namespace Go.Proofs.YthddlhpndaffjaaDoor
open Go Go.RowKit
section
variable {sz : Int} {L : Hd → Int → Int → Bool}

theorem PsAt.keeps {w w' : World} {F : Nat → Prop} {g o : Nat} {d : Pd} {sv : Value} (hn : PsAt w g o d sv) (hk : Keeps F w w') (hg : ¬ F g) : PsAt w' g o d sv := fun i hi => by
  have hs : (psC d sv)[i]? = some (psC d sv)[i] := List.getElem?_eq_getElem (by simpa [psC] using hi)
  have := hn i hi
  rw [hs] at this ⊢
  exact cell_keeps this hk hg

theorem own_list {w : World} {B : Nat} {v : Value} {l : List Int} (h : Own1 w B 3 v (cI l)) : ∃ A c, v = .slice A l.length c ∧ ∀ k (hk : k < l.length), ∃ g, A = some ⟨g, 0, none⟩ ∧ B ≤ g ∧ w.cell? ⟨g, k, none⟩ = some (.int .i64 l[k]) := by
  rcases h.slice with ⟨rfl, h0⟩ | ⟨g, cap, cur, rfl, hB, _⟩
  · have : l = [] := by simpa [cI] using h0
    subst this
    exact ⟨none, 0, rfl, fun k hk => absurd hk (Nat.not_lt_zero _)⟩
  · refine ⟨some ⟨g, 0, none⟩, cap, by rw [cI_len], fun k hk => ⟨g, rfl, hB, h.cells.2 k _ ?_⟩⟩
    simp [cI, hk]
theorem own_lt {w : World} {B g nn c : Nat} {l : List (Int × Int)} (hO : OwnSp w B (.slice (some ⟨g, 0, none⟩) nn c) l) : g < w.heap.size := by
  rcases OwnR.slice hO with ⟨h0, _⟩ | ⟨g', cap, cur, hv, _, hB, _⟩
  · cases h0
  · simp only [Value.slice.injEq, Option.some.injEq, Addr.mk.injEq, and_true] at hv
    rw [hv.1]
    exact hB.lt
theorem numsL_mem : ∀ (l : List Nd) (x : Int), x ∈ numsL l → ∃ n ∈ l, x ∈ numsN n
  | [], x, h => by rw [numsL] at h; cases h
  | n :: r, x, h => by
    rw [numsL, List.mem_append] at h
    rcases h with h | h
    · exact ⟨n, by simp, h⟩
    · obtain ⟨m, hm, hx⟩ := numsL_mem r x h
      exact ⟨m, List.mem_cons_of_mem _ hm, hx⟩
theorem nums_pos : ∀ (n : Nd), formB n = true → ∀ x ∈ numsN n, 0 ≤ x := by
  refine Nd.ind fun h subs ih hf x hx => ?_
  have hcase := form_cases hf
  rw [numsN, List.mem_append] at hx
  rcases hx with hx | hx
  · by_cases t : h.kind = 7
    · rw [if_pos t, List.mem_singleton] at hx
      omega
    · rw [if_neg t] at hx
      cases hx
  · obtain ⟨m, hm, hx⟩ := numsL_mem subs x hx
    exact ih m hm (form_sub hf m hm) x hx

theorem laid_nds {h : Hd} {subs : List Nd} {d : Pd} {ps : List Ps} (hf : formB (.mk h subs) = true) (hp : parseN sz L (.mk d ps) (.mk h subs) = true) :
    okR h subs.length d ps = true ∧ (if h.kind < 5 then [] else ndsOf h subs d ps.length) = ndsOf h subs d ps.length ∧ (ndsOf h subs d ps.length).length = ps.length ∧
      ∀ k (hk : k < ps.length), ∃ hk' : k < (ndsOf h subs d ps.length).length, parseN sz L ps[k] (ndsOf h subs d ps.length)[k] = true ∧ (ndsOf h subs d ps.length)[k] ∈ subs := by
  have hcase := form_cases hf
  by_cases hk : 5 ≤ h.kind
  · obtain ⟨ho, hr⟩ := parse_inv hp hk
    have hok : okR h subs.length d ps = true := by
      have := ok_same (sz := sz) (L := L) h subs.length d ps (ndsOf h subs d ps.length) (by omega) (by omega) (by omega)
      rw [ho, hr, Bool.and_true, Bool.and_true] at this
      exact this
    refine ⟨hok, by rw [if_neg (by omega)], (ndsOf_len h subs d ps hf hk hok).symm, fun k hkl => ?_⟩
    obtain ⟨h1, h2⟩ := rowN_get _ _ _ _ hr k hkl
    exact ⟨h1, h2, ndsOf_mem h subs d ps hf hk hok _ (List.getElem_mem h1)⟩
  · have h0 := parse_leaf hp hk
    subst h0
    have hs0 : subs = [] := List.eq_nil_of_length_eq_zero (by omega)
    subst hs0
    have hn : ndsOf h [] d ([] : List Ps).length = [] := by unfold ndsOf; rw [if_neg (by omega), if_neg (by omega)]
    rw [hn]
    refine ⟨?_, by rw [if_pos (by omega)], rfl, fun k hkl => absurd hkl (Nat.not_lt_zero _)⟩
    unfold okR
    rw [if_neg (by omega), if_neg (by omega), if_neg (by omega), if_neg (by omega)]
    rfl
theorem nums_le : ∀ (l : List Nd) (n : Nd), n ∈ l → (numsN n).length ≤ (numsL l).length
  | [], n, h => by cases h
  | a :: r, n, h => by
    rw [numsL, List.length_append]
    rcases List.mem_cons.1 h with rfl | h
    · omega
    · have := nums_le r n h
      omega

set_option maxRecDepth 100000 in
set_option maxHeartbeats 8000000 in
theorem laid_any : ∀ (p : Ps) (n : Nd) (svn svp : Value) (W w : World) (B g nn c : Nat) (l : List (Int × Int)), NdCap W n svn → PsOk W p svp → formB n = true → smallN n → smallP p → (numsN n).length ≤ 1000000 → parseN sz L p n = true → Ext W w → W.heap.size ≤ g → OwnSp w B (.slice (some ⟨g, 0, none⟩) nn c) l →
    Calls Tryd.prog 100 #[nodeV n.h svn, psV p.d svp, .slice (some ⟨g, 0, none⟩) nn c] w fun r w' => r = .returned (.slice (some ⟨g, 0, none⟩) nn c) ∧ OwnSp w' B (.slice (some ⟨g, 0, none⟩) nn c) (walkN p n l) ∧ Keeps (· = g) w w' := by
  refine Ps.ind fun d ps ih n svn svp W w B g nn c l hn hp hf hsm hsp hnu hpar hx hg hO => ?_
  obtain ⟨h, subs⟩ := n
  obtain ⟨A, cs, rfl⟩ := hn.ok.shape
  obtain ⟨A', cp, rfl⟩ := hp.shape
  simp only [Nd.subs, Ps.subs] at *
  show Calls _ _ #[nodeV h _, psV d _, _] _ _
  have IH := Lib.hid ih
  have HN := Lib.hid hn
  have HP := Lib.hid hp
  have HF := Lib.hid hf
  have HSM := Lib.hid hsm
  have HSP := Lib.hid hsp
  have HNUM := Lib.hid hnu
  have HPA := Lib.hid hpar
  obtain ⟨l1, HR⟩ : ∃ l1, Hid (l1 = if h.kind = 7 then setS h.num (d.a, d.b) (unsetL subs l) else l) := ⟨_, Lib.hid rfl⟩
  obtain ⟨nds, HD⟩ : ∃ nds, Hid (nds = ndsOf h subs d ps.length) := ⟨_, Lib.hid rfl⟩
  obtain ⟨res, HRES⟩ : ∃ res, Hid (res = walkR ps nds l1) := ⟨_, Lib.hid rfl⟩
  have hres : walkN (.mk d ps) (.mk h subs) l = res := by rw [walkN, HRES.out, HD.out, HR.out]
  rw [hres]
  have HNN := Lib.hid hO.len
  have hcase := form_cases hf
  clear ih hn hp hf hsm hsp hnu hpar hres
  go_enter Tryd.func100, Tryd.ntmps100
  go_upto_region 1 with (first
    | (refine wpl_boxNd rfl _ rfl h _ rfl ?_; intro z w1 hb hx1 ex sx)
    | (refine wpl_boxPs rfl _ rfl d _ rfl ?_; intro y w2 hc hx2 ey sy))
  have hb2 := hb.ext hx2
  have hx12 := hx1.trans hx2
  replace hO := OwnR.ext hO hx12
  have hkw : Keeps (· = g) w w2 := Keeps.of_ext hx12
  replace hx2 := hx.trans hx12
  have HZG := Lib.hid (own_ne hO hb2 (by decide))
  have HYG := Lib.hid (own_ne hO hc (by decide))
  clear hb hx1 ex sx ey sy hx hx12
  have n0 : w2.cell? ⟨z, 0, none⟩ = some (.int .i64 h.kind) := hb2.cell 0
  have n5 : w2.cell? ⟨z, 5, none⟩ = some (.slice A subs.length cs) := hb2.cell 5
  have n6 : w2.cell? ⟨z, 6, none⟩ = some (.int .i64 h.num) := hb2.cell 6
  have NA := Lib.hid (fun W' (hW : Keeps (· = g) w2 W') => (show NdAt w2 z 0 h _ from hb2.nd).keeps hW HZG.out)
  have hps := hc.ps
  have PA := Lib.hid (fun W' (hW : Keeps (· = g) w2 W') => hps.keeps hW HYG.out)
  clear hps
  have p0 : w2.cell? ⟨y, 0, none⟩ = some (.int .i64 d.a) := hc.cell 0
  have p1 : w2.cell? ⟨y, 1, none⟩ = some (.int .i64 d.b) := hc.cell 1
  have p3 : w2.cell? ⟨y, 3, none⟩ = some (.slice A' ps.length cp) := hc.cell 3
  clear hb2 hc
  have hcn := hcase
  clear hcase
  iterate 13 (go_step)
  go_cut [7, 8] (fun _ _ wx => OwnSp wx B (.slice (some ⟨g, 0, none⟩) nn c) l1 ∧ Keeps (· = g) w2 wx)
  case first =>
    have hcase := hcn
    by_cases t : h.kind = 7
    case neg =>
      have HL1 := Lib.hid (HR.out.trans (if_neg t))
      have t2 : (h.kind == 7) = false := by simpa using t
      clear hcase HR hcn t p0 p1 p3 n5 n6
      generalize h.kind = kd at *
      go_wp2
      go_meet
      case rel => exact ⟨by rw [HL1.out]; exact hO, Keeps.refl _ _⟩
    have HL1 := Lib.hid (HR.out.trans (if_pos t))
    have hs1 : subs.length = 1 := by omega
    have HNP := Lib.hid (show 0 ≤ h.num by omega)
    obtain ⟨n, rfl⟩ := len_one hs1
    obtain ⟨g1, o1, svj, rfl, hat1, hok1⟩ := HN.out.get 0 (by simp)
    simp only [List.getElem_cons_zero, Nat.zero_mul, Nat.add_zero, List.length_singleton] at hat1 hok1 n5
    have hnl : (numsN n).length ≤ 1000000 := by
      have := HNUM.out
      rw [numsN, List.length_append, numsL, numsL, List.append_nil] at this
      omega
    have HCU := Lib.hid (numbers_any n svj w2 (hok1.ext hx2).ok hnl (smallL_mem HSM.out.2 n (by simp)))
    have A1u := Lib.hid (hat1.ext hx2)
    rw [t] at n0
    clear HR hcase hat1 hok1 hs1
    generalize hhn : n.h = hn at *
    have HHN := Lib.hid hhn
    clear hhn
    go_upto_region 3 with (first
      | (refine wpl_loadNd rfl _ rfl g1 o1 hn svj rfl A1u.out ?_)
      | (go_at_call 111; refine HCU.out.mono ?_; rintro e w5 ⟨v5, rfl, hO5, hx5⟩))
    obtain ⟨G, cg, rfl, hgone⟩ := own_list hO5
    have HGL := Lib.hid (own_lt hO)
    have HG := Lib.hid (fun k hk => by
      obtain ⟨b, h1, h2, h3⟩ := hgone k hk
      exact (⟨b, h1, fun e => absurd h2 (by rw [e]; have := HGL.out; omega), h3⟩ : ∃ b, G = some ⟨b, 0, none⟩ ∧ b ≠ g ∧ w5.cell? ⟨b, k, none⟩ = some (.int .i64 (numsN n)[k])))
    have HPOS := Lib.hid (nums_pos n (form_sub HF.out n (by simp)))
    have hOw := OwnR.ext hO hx5
    have hkw5 : Keeps (· = g) w2 w5 := Keeps.of_ext hx5
    clear hgone hO5 HCU A1u hO
    have HN6 := Lib.hid n6
    have HP0 := Lib.hid p0
    have HP1 := Lib.hid p1
    clear n0 n5 n6 p0 p1 p3
    have HUN := Lib.hid (unsetNs_numsN n l)
    generalize numsN n = gone at *
    go_wp2
    go_loopw [8] (fun i wr => ∃ (k : Nat), k ≤ gone.length ∧ i = .int .i64 k ∧ OwnSp wr B (.slice (some ⟨g, 0, none⟩) nn c) (unsetNs (gone.take k) l) ∧ Keeps (· = g) w5 wr) (fun i _ => gone.length - (intOf i).toNat)
    case atStart => exact ⟨0, Nat.zero_le _, rfl, by rw [List.take_zero, unsetNs]; exact hOw, Keeps.refl _ _⟩
    case round =>
      obtain ⟨k, hk, rfl, hO, hkr⟩ := hrel
      by_cases hlt : k < gone.length
      · obtain ⟨b, rfl, hbg, hcb⟩ := HG.out k hlt
        have hcr := hkr.cellb hcb hbg
        have hlk : (unsetNs (gone.take k) l).length = l.length := unsetNs_len _ _
        have hle := HNN.out
        have HST := Lib.hid (unsetNs_step hlt l)
        have hx0 : 0 ≤ gone[k] := HPOS.out _ (List.getElem_mem hlt)
        obtain ⟨j, hj⟩ := Int.eq_ofNat_of_zero_le hx0
        rw [hj] at hcr HST
        have t1 : (k : Int) < (gone.length : Int) := by omega
        clear HG HUN HPOS hcb hj hx0 IH HN HP hOw hkw5
        generalize unsetNs (gone.take k) l = lk at *
        by_cases t : j < nn
        · have t2 : (j : Int) < (nn : Int) := by omega
          have HLE := Lib.hid (show unsetI (j : Int) lk = lk.set j (-1, -1) by unfold unsetI; rw [if_pos (by omega), Int.toNat_natCast])
          go_upto_region 5 with (refine wpl_setSp rfl _ _ rfl rfl B g _ c lk j (-1, -1) rfl rfl hO (by omega) ?_; intro w6 hO6 hk6)
          go_wp2
          go_roundw
          case rel => exact ⟨k + 1, by omega, by go_num, by rw [HST.out, HLE.out]; exact hO6, hkr.trans hk6 (fun _ _ e => e)⟩
          case measure => simp [intOf]; omega
        · have t2 : ¬ (j : Int) < (nn : Int) := by omega
          have HLE := Lib.hid (show unsetI (j : Int) lk = lk by unfold unsetI; rw [if_neg (by omega)])
          go_wp2
          go_roundw
          case rel => exact ⟨k + 1, by omega, by go_num, by rw [HST.out, HLE.out]; exact hO, hkr⟩
          case measure => simp [intOf]; omega
      · have hkl : gone.take k = gone := List.take_of_length_le (by omega)
        rw [hkl, HUN.out] at hO
        have t1 : ¬ (k : Int) < (gone.length : Int) := by omega
        clear HG HUN HPOS hkl hOw hkw5
        go_upto_region 8 with fail
        have HLU : unsetL [n] l = unsetN n l := by rw [unsetL, unsetL]
        obtain ⟨num, hnum⟩ := Int.eq_ofNat_of_zero_le HNP.out
        have HL2 := HL1.out
        rw [HLU, hnum] at HL2
        unfold setS at HL2
        have hul : (unsetN n l).length = nn := by rw [unsetN_len, HNN.out]
        have n6r := hkr.cellb (hx5.cell HN6.out) HZG.out
        have p0r := hkr.cellb (hx5.cell HP0.out) HYG.out
        have p1r := hkr.cellb (hx5.cell HP1.out) HYG.out
        rw [hnum] at n6r
        have hk2r : Keeps (· = g) w2 wr := (Keeps.of_ext hx5).trans hkr (fun _ _ e => e)
        clear HLU HN6 HP0 HP1 HL1 HN HP IH hnum
        generalize unsetN n l = lu at *
        by_cases t4 : num < nn
        · have t5 : (num : Int) < (nn : Int) := by omega
          rw [if_pos (by omega), Int.toNat_natCast] at HL2
          have HL3 := Lib.hid HL2
          clear HL2
          go_upto_region 10 with (refine wpl_setSp rfl _ _ rfl rfl B g _ c lu num (d.a, d.b) rfl rfl hO (by omega) ?_; intro w6 hO6 hk6)
          go_meet
          case rel => exact ⟨by rw [HL3.out]; exact hO6, hk2r.trans hk6 (fun _ _ e => e)⟩
        · have t5 : ¬ (num : Int) < (nn : Int) := by omega
          rw [if_neg (by omega)] at HL2
          have HL3 := Lib.hid HL2
          clear HL2
          go_wp2
          go_meet
          case rel => exact ⟨by rw [HL3.out]; exact hO, hk2r⟩
  obtain ⟨hOc, hkc⟩ := hcut
  rename_i wc
  have hxc := hx2.keep1 hkc hg
  have NC := Lib.hid (NA.out _ hkc)
  have PC := Lib.hid (PA.out _ hkc)
  have hlp : ps.length ≤ 1000000 ∧ subs.length ≤ 1000000 := ⟨HSP.out.1, HSM.out.1⟩
  obtain ⟨hok, hif, hnl, hkid⟩ := laid_nds HF.out HPA.out
  have hcs0 := fun w' (hw : Ext W w') => subs_st W h subs (.slice A subs.length cs) d ps (.slice A' ps.length cp) w' HN.out hw (HP.out.ext hw) HF.out hlp.1 hlp.2
  rw [hif, hok] at hcs0
  rw [← HD.out] at hcs0 hnl hkid
  have HKID := Lib.hid hkid
  have HNL := Lib.hid hnl
  have HCS := Lib.hid hcs0
  have hpl : ps.length ≤ 1000000 := hlp.1
  have HGL := Lib.hid (own_lt hOc)
  have HFS := Lib.hid (form_sub HF.out)
  have HLW := Lib.hid (by have := HNUM.out; rw [numsN, List.length_append] at this; exact (by omega : (numsL subs).length ≤ 1000000))
  have hkw0 : Keeps (· = g) w wc := hkw.trans hkc (fun _ _ e => e)
  have p3 : wc.cell? ⟨y, 3, none⟩ = some (.slice A' ps.length cp) := PC.out 3 (by decide)
  clear hcs0 hif hok hnl hkid hlp HR HD NA PA hkw hO hx2 hkc HF n0 n5 n6 p0 p1 hcn HPA HNUM HN HNN
  go_upto_region 11 with (first
    | (refine wpl_loadNd rfl _ rfl z 0 h _ rfl NC.out ?_)
    | (refine wpl_loadPs rfl _ rfl y 0 d _ rfl PC.out ?_)
    | (go_at_call 96; refine (HCS.out _ hxc).mono ?_; rintro e w3 ⟨v3, rfl, hv3, hx3⟩))
  obtain ⟨A3, c3, rfl, hkids⟩ := hv3 trivial
  have HKI := Lib.hid (fun k (hk : k < nds.length) => (by
    obtain ⟨g1, o1, sv, h1, h2, h3, h4⟩ := hkids k hk
    exact ⟨g1, o1, sv, h1, fun e => (by subst e; have := HGL.out; rcases h4 with h4 | h4 <;> omega), h2, h3⟩ : ∃ g1 o1 sv, A3 = some ⟨g1, o1, none⟩ ∧ g1 ≠ g ∧ NdAt w3 g1 (o1 + k * 10) (nds[k]).h sv ∧ NdCap W nds[k] sv))
  have hO3 := OwnR.ext hOc hx3
  have hkw3 : Keeps (· = g) w w3 := hkw0.trans (Keeps.of_ext hx3) (fun _ _ e => e)
  have p33 := hx3.cell p3
  have hx3W := hxc.trans hx3
  have hk33 : Keeps (· = g) w3 w3 := Keeps.refl _ _
  clear hkids hv3 HCS NC PC hOc hkw0 hxc hx3 p3 HGL
  go_wp2
  go_loopw [2, 11] (fun v i wr => ∃ (k : Nat), k ≤ ps.length ∧ v = .slice (some ⟨g, 0, none⟩) nn c ∧ i = .int .i64 k ∧ OwnSp wr B (.slice (some ⟨g, 0, none⟩) nn c) (walkR (ps.take k) (nds.take k) l1) ∧ Keeps (· = g) w3 wr) (fun _ i _ => ps.length - (intOf i).toNat)
  case atStart => exact ⟨0, Nat.zero_le _, rfl, rfl, by rw [List.take_zero, walkR]; exact hO3, hk33⟩
  case round =>
    clear hk33 hO3
    obtain ⟨k, hk, rfl, rfl, hO, hkr⟩ := hrel
    have hxr := hx3W.keep1 hkr hg
    have c5 := hkr.cellb p33 HYG.out
    by_cases hlt : k < ps.length
    · obtain ⟨hkn, hpr, hmem⟩ := HKID.out k hlt
      obtain ⟨g1, o1, svj, rfl, hg1, hat1, hok1⟩ := HKI.out k hkn
      obtain ⟨g0, o0, svq, rfl, hat0, hok0⟩ := HP.out.get k hlt
      have HST := Lib.hid (walkR_step hlt hkn l1)
      have hnum : (numsN nds[k]).length ≤ 1000000 := Nat.le_trans (nums_le subs _ hmem) HLW.out
      have HC := Lib.hid (IH.out ps[k] (List.getElem_mem hlt) nds[k] svj svq W wr.drew B g nn c (walkR (ps.take k) (nds.take k) l1) hok1 hok0 (HFS.out _ hmem) (smallL_mem HSM.out.2 _ hmem) (smallPL_mem HSP.out.2 _ (List.getElem_mem hlt)) hnum hpr hxr.drewr hg (OwnR.ext hO (Ext.refl wr).drewr))
      have A1 := Lib.hid (hat1.keeps hkr hg1).drew
      have A0 := Lib.hid (hat0.ext hxr).drew
      have t1 : (k : Int) < (ps.length : Int) := by omega
      have t2 : (k : Int) < (nds.length : Int) := by omega
      have hkd : Keeps (· = g) w3 wr.drew := hkr.drew
      have c5d : wr.drew.cell? ⟨y, 3, none⟩ = some (.slice (some ⟨g0, o0, none⟩) ps.length cp) := c5
      clear hnum hpr hmem hok1 hok0 hat0 hat1 hg1 HKID HKI IH HP HFS HLW HSM HSP hO p33
      generalize walkN ps[k] nds[k] (walkR (ps.take k) (nds.take k) l1) = lres at *
      generalize walkR (ps.take k) (nds.take k) l1 = lk at *
      generalize ps[k] = q at *
      generalize nds[k] = nj at *
      generalize hdq : q.d = dq at *
      generalize hhn : nj.h = hn at *
      have HDQ := Lib.hid hdq
      have HHN := Lib.hid hhn
      clear hdq hhn
      go_upto_region 14 with fail
      clear c5
      refine wp_region_still_tail 10 (by kernel_rfl) (by kernel_rfl) ?_
      simp only [List.take_succ_cons, List.take_zero, List.drop_succ_cons, List.drop_zero]
      repeat still_step
      refine wpStill_loadNd _ rfl rfl g1 (o1 + k * 10) hn svj rfl A1.out ?_
      repeat still_step
      refine wpStill_loadPs _ rfl rfl g0 (o0 + k * 4) dq svq rfl A0.out ?_
      repeat still_step
      refine wpStill_nil ?_
      change wpList _ _ _ _ _ wr.drew
      go_wp2_with (go_at_call 100; refine HC.out.mono ?_; rintro e w5 ⟨rfl, hO5, hk5⟩)
      go_roundw
      case rel => exact ⟨k + 1, by omega, rfl, by go_num, by rw [HST.out]; exact hO5, hkd.trans hk5 (fun _ _ e => e)⟩
      case measure => simp [intOf]; omega
    · have hfin : walkR (ps.take k) (nds.take k) l1 = res := by rw [HRES.out, show k = ps.length by omega]; exact walkR_done (HNL.out.symm) l1
      rw [hfin] at hO
      have t1 : ¬ (k : Int) < (ps.length : Int) := by omega
      clear IH HP HKID HKI hfin p33
      go_wp2
      go_ret
      exact ⟨rfl, hO, hkw3.trans hkr (fun _ _ e => e)⟩
end
end Go.Proofs.YthddlhpndaffjaaDoor

namespace Go.Proofs.YthddlhpndaffjaaDoor
open Go Go.RowKit

theorem zero_sp : (Tryd.prog.info? 74).map (fun i => i.zero) = some (some (.agg #[.int .i64 0, .int .i64 0])) := by kernel_rfl
section
variable {ops : Array Oper} {rest : List Oper} {o : Oper} {a : Act} {w : World} {Q : Exit → Act → World → Prop}
/-- A slice of one span, new. -/
theorem wpl_oneSp (hgd : o.guard = none) (x : Operand) (ho : o.op = .buildSlice 68 1 #[(0, x)]) (s : Int × Int) (hx : a.eval x = .agg #[.int .i64 s.1, .int .i64 s.2])
    (hK : ∀ g w1, Blk w1 g 74 #[.int .i64 s.1, .int .i64 s.2] → Ext w w1 → w.heap.size ≤ g → g < w1.heap.size → wpList Tryd.prog ops Q rest (a.put o.dst (.slice (some ⟨g, 0, none⟩) 1 1)) w1) : wpList Tryd.prog ops Q (o :: rest) a w := by
  obtain ⟨i, hi, hz⟩ := Option.map_eq_some_iff.1 zero_sp
  have hs : i.size = 2 := by have := info_sp; rw [hi] at this; simpa using this
  refine wpList_buildSlice hgd 68 74 1 _ ho #[.int .i64 s.1, .int .i64 s.2] i _ Tryd.underlying68 hi hz (by rw [hs]; decide) (by rw [hs]; decide) ?_ (hK _ _ (Blk.new w _ _) ((Ext.refl w).alloc _) (Nat.le_refl _) (by simp))
  rw [hs]
  have hf := Great.fill_whole (s := 2) (by decide) [Value.agg #[.int .i64 s.1, .int .i64 s.2]] ((Array.range (1 * 2)).map ((Value.agg #[.int .i64 0, .int .i64 0]).cells[· % (Value.agg #[.int .i64 0, .int .i64 0]).cells.size]!)) (fun v hv => by simp only [List.mem_singleton] at hv; subst hv; rfl) (by simp)
  have e : (List.map (fun x => (x.2, x.1)) ([Value.agg #[.int .i64 s.1, .int .i64 s.2]].zipIdx 0)) = (Array.map (fun x => (x.1, a.eval x.2)) #[(0, x)]).toList := by simp [hx]
  rw [e] at hf
  rw [hf]
  simp [Value.cells]
end

theorem rep_sp (k : Nat) : spR (List.replicate k (-1, -1)) ++ [spC (-1, -1)] = spR (List.replicate (k + 1) (-1, -1)) := by
  simp [spR, List.replicate_succ']
theorem spC_one (x : Int × Int) : ∀ u ∈ spC x, u.oneCell' = true := by
  intro u hu
  simp only [spC, List.mem_cons, List.not_mem_nil, or_false] at hu
  rcases hu with rfl | rfl <;> rfl

section
variable {s : ByteArray} {c e : Int}
set_option maxRecDepth 100000 in
set_option maxHeartbeats 4000000 in
theorem laidL_any (n : Nd) (svn : Value) (p : Ps) (svp : Value) (G : Nat) (w : World) (hn : NdCap w n svn) (hp : PsOk w p svp) (hf : formB n = true) (hsm : smallN n) (hps : smallP p) (hnu : (numsN n).length ≤ 1000000) (hG : G ≤ 999) (hpar : parseN s.size (leafB s c e) p n = true) :
    Calls Tryd.prog 69 #[nodeV n.h svn, psV p.d svp, .int .i64 G] w fun r w' => ∃ g cp, r = .returned (.slice (some ⟨g, 0, none⟩) (G + 1) cp) ∧ OwnSp w' w.heap.size (.slice (some ⟨g, 0, none⟩) (G + 1) cp) (spansN n p G) ∧ Ext w w' := by
  have HW := Lib.hid (fun (W : World) g nn cp l (hx : Ext w W) (hg : w.heap.size ≤ g) (hO : OwnSp W w.heap.size (.slice (some ⟨g, 0, none⟩) nn cp) l) => laid_any p n svn svp w W w.heap.size g nn cp l hn hp hf hsm hps hnu hpar hx hg hO)
  have HF := Lib.hid (show spansN n p G = walkN p n (spans0 p.d G) from rfl)
  clear hn hp hf hsm hps hnu hpar
  generalize spansN n p G = res at *
  generalize n.h = h at *
  generalize p.d = d at *
  go_enter Tryd.func69, Tryd.ntmps69
  go_upto_region 2 with (first
    | (refine wpl_boxNd rfl _ rfl h _ rfl ?_; intro z w1 hb hx1 ex sx)
    | (refine wpl_boxPs rfl _ rfl d _ rfl ?_; intro y w2 hc hx2 ey sy))
  have hx12 := hx1.trans hx2
  have hb2 := hb.ext hx2
  have HA := Lib.hid (fun W (hW : Ext w2 W) => (hb2.ext hW).nd)
  have HB := Lib.hid (fun W (hW : Ext w2 W) => (hc.ext hW).ps)
  have p0 : w2.cell? ⟨y, 0, none⟩ = some (.int .i64 d.a) := hc.cell 0
  have p1 : w2.cell? ⟨y, 1, none⟩ = some (.int .i64 d.b) := hc.cell 1
  have hyl := hc.lt
  have hzl := hb2.lt
  have HC2 := Lib.hid hc
  have HB2 := Lib.hid hb2
  clear hb hx1 hx2 ex sx ey sy hb2 hc
  have hO0 : OwnSp w2 w2.heap.size (.slice none 0 0) (List.replicate 0 (-1, -1)) := OwnR.nil _ _ _ _
  have hx22 := Ext.refl w2
  go_wp2
  go_loopw [7, 8] (fun v i wr => ∃ k : Nat, k ≤ G + 1 ∧ i = .int .i64 k ∧ OwnSp wr w2.heap.size v (List.replicate k (-1, -1)) ∧ Ext w2 wr) (fun _ i _ => G + 1 - (intOf i).toNat)
  case atStart => exact ⟨0, Nat.zero_le _, rfl, hO0, hx22⟩
  case round =>
    clear hO0 hx22
    obtain ⟨k, hk, rfl, hO, hxr⟩ := hrel
    by_cases hlt : k < G + 1
    · have t1 : (k : Int) ≤ (G : Int) := by omega
      have HST := Lib.hid (rep_sp k)
      clear HF HW HA HB HC2 HB2 p0 p1
      go_upto_region 4 with (first
        | (refine wpl_oneSp rfl _ rfl (-1, -1) rfl ?_; intro g5 w5 hg5 hx5 e5 s5)
        | (refine wpList_appR rfl _ _ _ rfl w2.heap.size 74 _ 2 16 Tryd.underlying68 info_spZ rfl (by decide) u7 _ rfl (OwnR.ext hO hx5) g5 1 (spC (-1, -1)) rfl rfl (fun i _ => by rw [hg5.cell]; simp [spC]) (spC_one _) (by rw [spR_len, List.length_replicate]; omega) (by rw [spR_len, List.length_replicate]; omega) (hxr.trans hx5).size ?_; intro v' w6 h1 h2 h3))
      have hO6 := h1
      rw [HST.out] at hO6
      have hx6 : Ext w2 w6 := (hxr.trans hx5).grown h2 (fun i hi => (OwnR.own hO i hi).1)
      clear h1 h2 h3 hg5 hx5 e5 s5 hO
      go_wp2
      go_roundw
      case rel => exact ⟨k + 1, by omega, by go_num, hO6, hx6⟩
      case measure => simp [intOf]; omega
    · have hkk : k = G + 1 := by omega
      subst hkk
      have t1 : ¬ ((G + 1 : Nat) : Int) ≤ (G : Int) := by omega
      obtain ⟨g, cp, rfl, hg, hgl, hcp⟩ := OwnR.form hO (by simp)
      simp only [spR_len, List.length_replicate] at hO
      have hgW : w.heap.size ≤ g := Nat.le_trans hx12.size hg
      replace p0 := hxr.cell p0
      replace p1 := hxr.cell p1
      have hO9 := OwnR.mono hO hx12.size
      have hxW := hx12.trans hxr
      have HLr := Lib.hid (show 0 < (List.replicate (G + 1) ((-1 : Int), (-1 : Int))).length by simp)
      have HSp := Lib.hid (show (List.replicate (G + 1) ((-1 : Int), (-1 : Int))).set 0 (d.a, d.b) = spans0 d G from rfl)
      have HA6 := Lib.hid (fun w6 (hk6 : Keeps (· = g) wr w6) => NdAt.keeps (HA.out wr hxr) hk6 (by omega))
      have HB6 := Lib.hid (fun w6 (hk6 : Keeps (· = g) wr w6) => PsAt.keeps (HB.out wr hxr) hk6 (by omega))
      clear hO hk hlt HA HB hg hgl hcp hxr HC2 HB2 hyl hzl hx12
      simp only [spR_len, List.length_replicate]
      generalize List.replicate (G + 1) ((-1 : Int), (-1 : Int)) = l0 at *
      generalize d.a = a at *
      generalize d.b = b at *
      go_upto_region 7 with (refine wpl_setSp rfl _ _ rfl rfl w.heap.size g _ cp l0 0 (a, b) rfl rfl hO9 HLr.out ?_; intro w6 hO6 hk6)
      rw [HSp.out] at hO6
      have hx6 := hxW.keep1 hk6 hgW
      have HAt := Lib.hid (HA6.out w6 hk6)
      have HBt := Lib.hid (HB6.out w6 hk6)
      have HC := Lib.hid (HW.out w6 g (G + 1) cp (spans0 d G) hx6 hgW hO6)
      rw [← HF.out] at HC
      clear hO9 hO6 hk6 HW HF HLr HSp HA6 HB6 hxW p0 p1
      go_wp2_with (first
        | (refine wpl_loadNd rfl _ rfl z 0 h _ rfl HAt.out ?_)
        | (refine wpl_loadPs rfl _ rfl y 0 d _ rfl HBt.out ?_)
        | (go_at_call 100; refine HC.out.mono ?_; rintro e w7 ⟨rfl, hO7, hk7⟩))
      go_ret
      exact ⟨g, cp, rfl, hO7, hx6.keep1 hk7 hgW⟩

set_option maxRecDepth 100000 in
set_option maxHeartbeats 4000000 in
theorem rSpans_any (n : Nd) (svn : Value) (p : Ps) (svp : Value) (G : Int) (w : World) (m : Int) (hn : NdCap w n svn) (hp : PsOk w p svp) (hm : m ≤ 1000000) (hfew : 0 ≤ leftN n m) (hps : smallP p) (hs : s.size ≤ 1000000) :
    Calls Tryd.prog 42 #[nodeV n.h svn, srV s c e false, psV p.d svp, .int .i64 G] w (RetSp w (okSp s c e n p G) (spansN n p G.toNat)) := by
  have hsm := small_left n m hm hfew
  have hnu : (numsN n).length ≤ 1000000 := by have := numsN_few n m hfew; omega
  have HC := Lib.hid (fun W (hW : Ext w W) => rCheck_any (c := c) (e := e) n svn p svp W m (hn.ext hW) (hp.ext hW) hm hfew hps hs)
  have HW := Lib.hid (fun (h0 : checkN s c e n p = true) (W : World) (g : Nat) (hx : Ext w W) (hg : g ≤ 999) => (by
    unfold checkN at h0
    rw [Bool.and_eq_true, decide_eq_true_eq] at h0
    exact laidL_any n svn p svp g W (hn.ext hx) (hp.ext hx) (chk_ok h0.1).1 hsm hps hnu hg h0.2 : Calls Tryd.prog 69 #[nodeV n.h svn, psV p.d svp, .int .i64 g] W fun r w' => ∃ b cp, r = .returned (.slice (some ⟨b, 0, none⟩) (g + 1) cp) ∧ OwnSp w' W.heap.size (.slice (some ⟨b, 0, none⟩) (g + 1) cp) (spansN n p g) ∧ Ext W w'))
  have HR := Lib.hid (show okSp s c e n p G = (decide (0 ≤ G) && decide (G ≤ 999) && checkN s c e n p) from rfl)
  have HLn := Lib.hid (spansN_len n p)
  clear hn hp hm hfew hps hsm hnu
  obtain ⟨res, HRES⟩ : ∃ res, Hid (res = spansN n p) := ⟨_, Lib.hid rfl⟩
  rw [← HRES.out] at HW HLn
  rw [show spansN n p G.toNat = res G.toNat by rw [HRES.out]]
  generalize okSp s c e n p G = ok at *
  generalize checkN s c e n p = ck at *
  generalize n.h = h at *
  generalize p.d = d at *
  clear HRES
  unfold srV at *
  go_enter Tryd.func42, Tryd.ntmps42
  go_upto_region 1 with (first
    | (refine wpl_boxNd rfl _ rfl h _ rfl ?_; intro z w1 hb hx1 ex sx)
    | (refine wpl_boxPs rfl _ rfl d _ rfl ?_; intro y w2 hc hx2 ey sy))
  have K4 := (Blk.new w1 65 #[.string s, .int .i64 c, .int .i64 e, .bool false]).ext hx2
  have hx12 := (hx1.alloc (.cells #[.string s, .int .i64 c, .int .i64 e, .bool false] 65)).trans hx2
  replace hb := (hb.ext ((Ext.refl w1).alloc (.cells #[.string s, .int .i64 c, .int .i64 e, .bool false] 65))).ext hx2
  generalize w1.heap.size = u at *
  clear hx1 hx2 ex sx ey sy
  have k0 : w2.cell? ⟨u, 0, none⟩ = some (.string s) := K4.cell 0
  have k1 : w2.cell? ⟨u, 1, none⟩ = some (.int .i64 c) := K4.cell 1
  have k2 : w2.cell? ⟨u, 2, none⟩ = some (.int .i64 e) := K4.cell 2
  have k3 : w2.cell? ⟨u, 3, none⟩ = some (.bool false) := K4.cell 3
  have HA := Lib.hid (fun W (hW : Ext w2 W) => (hb.ext hW).nd)
  have HB := Lib.hid (fun W (hW : Ext w2 W) => (hc.ext hW).ps)
  have hx22 := Ext.refl w2
  clear K4 hb hc
  by_cases t1 : G < 0
  · have FIN := Lib.hid (show ok = false by rw [HR.out, decide_eq_false (by omega : ¬ 0 ≤ G)]; rfl)
    clear HR HC HW HLn
    go_wp2
    go_ret2
    exact .inl ⟨FIN.out, rfl, hx12⟩
  by_cases t2 : 999 < G
  · have FIN := Lib.hid (show ok = false by rw [HR.out, decide_eq_false (by omega : ¬ G ≤ 999)]; simp)
    clear HR HC HW HLn
    go_wp2
    go_ret2
    exact .inl ⟨FIN.out, rfl, hx12⟩
  have HR2 := Lib.hid (show ok = ck by rw [HR.out, decide_eq_true (by omega : 0 ≤ G), decide_eq_true (by omega : G ≤ 999)]; rfl)
  replace t1 : 0 ≤ G := by omega
  replace t2 : G ≤ 999 := by omega
  clear HR
  cases ck
  · clear HW HLn
    go_wp2_with (first
      | (refine wpl_loadNdG _ rfl rfl z 0 h _ rfl (HA.out _ hx22) ?_)
      | (refine wpl_loadPsG _ rfl rfl y 0 d _ rfl (HB.out _ hx22) ?_)
      | (go_at_call 40; refine (HC.out _ hx12).mono ?_; rintro e w3 ⟨rfl, hx3⟩))
    go_ret2
    exact .inl ⟨HR2.out, rfl, hx12.trans hx3⟩
  obtain ⟨gn, rfl⟩ := Int.eq_ofNat_of_zero_le (show 0 ≤ G by omega)
  have HW2 := Lib.hid (fun W hx => HW.out rfl W gn hx (by omega))
  have HLg := Lib.hid (HLn.out gn)
  have t3 : (gn : Int) ≤ 999 := t2
  clear HW HLn
  go_wp2_with (first
    | (refine wpl_loadNdG _ rfl rfl z 0 h _ rfl (HA.out _ hx22) ?_)
    | (refine wpl_loadPsG _ rfl rfl y 0 d _ rfl (HB.out _ hx22) ?_)
    | (go_at_call 40; refine (HC.out _ hx12).mono ?_; rintro e w3 ⟨rfl, hx3⟩)
    | (refine wpl_loadNd rfl _ rfl z 0 h _ rfl (HA.out _ hx3) ?_)
    | (refine wpl_loadPs rfl _ rfl y 0 d _ rfl (HB.out _ hx3) ?_)
    | (go_at_call 69; refine (HW2.out _ (hx12.trans hx3)).mono ?_; rintro e w4 ⟨b, cp, rfl, hO4, hx4⟩))
  go_ret2
  exact .inr ⟨HR2.out, b, cp, by rw [Int.toNat_natCast, HLg.out]; rfl, by rw [Int.toNat_natCast, HLg.out]; exact OwnR.mono hO4 (hx12.trans hx3).size, (hx12.trans hx3).trans hx4⟩
end

end Go.Proofs.YthddlhpndaffjaaDoor
