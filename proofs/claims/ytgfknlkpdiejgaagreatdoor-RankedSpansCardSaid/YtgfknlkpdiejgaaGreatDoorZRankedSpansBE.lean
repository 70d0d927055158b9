/- What Laid of the best parse is, in plain words: what ranked tells; the best parse is small, and a parse. No program. trawlref12.subs as a contract, with the children in the memory ahead of the call. Condition: tree and parse lie in memory, the tree is in form. Plain: setting the numbers of a tree's groups one by one to unset is what unsetting the tree does. trawlref12.laid as a contract. Condition: tree and parse lie in memory, the parse is one of the tree. -/
import Derived.Test.YtgfknlkpdiejgaaGreatDoorZRankedSpansAR
import Derived.Test.YtgfknlkpdiejgaaGreatDoorZRankedSpansAW
import Derived.Test.YtgfknlkpdiejgaaGreatDoorZRankedSpansBD
import Derived.Test.YtgfknlkpdiejgaaGreatDoorZRankedSpansBB
import Derived.Test.YtgfknlkpdiejgaaGreatDoorZRankedSpansAL
import Derived.Test.YtgfknlkpdiejgaaGreatDoorZRankedSpansAQ
namespace Go.Proofs.YtgfknlkpdiejgaaGreatDoor
open Go Go.RowKit

theorem setS_set0 {num : Int} (h : 0 < num) (x y : Int × Int) (l : List (Int × Int)) : setS num y (l.set 0 x) = (setS num y l).set 0 x := by
  unfold setS
  simp only [List.length_set]
  split
  · exact List.set_comm _ _ (by omega)
  · rfl
mutual
/-- Every group has a number above zero. -/
def posN : Nd → Prop
  | .mk h subs => (h.kind = 7 → 0 < h.num) ∧ posL subs
def posL : List Nd → Prop
  | [] => True
  | n :: r => posN n ∧ posL r
end
theorem posL_mem : ∀ {l : List Nd}, posL l → ∀ n ∈ l, posN n
  | [], _, n, hn => by cases hn
  | a :: r, h, n, hn => by
    rcases List.mem_cons.1 hn with rfl | hn
    · exact h.1
    · exact posL_mem h.2 n hn
theorem posL_of : ∀ {l : List Nd}, (∀ n ∈ l, posN n) → posL l
  | [], _ => trivial
  | a :: r, h => ⟨h a (by simp), posL_of fun n hn => h n (by simp [hn])⟩
theorem form_pos : ∀ n : Nd, formB n = true → posN n := Nd.ind fun h subs ih hf => by
  refine ⟨fun hk => ?_, posL_of fun n hn => ih n hn (form_sub hf n hn)⟩
  rcases form_cases hf with h1 | h1 | h1 | h1 | h1 | h1 | h1 | h1
  all_goals first | exact h1.2.2.1 | omega
mutual
theorem unsetN_set0 : ∀ (n : Nd) (l : List (Int × Int)) (x : Int × Int), posN n → unsetN n (l.set 0 x) = (unsetN n l).set 0 x
  | .mk h subs, l, x, hp => by
    rw [unsetN, unsetN, set_kind, set_kind, ← unsetL_set0 subs _ x hp.2]
    congr 1
    split
    · rename_i hk
      have := hp.1 hk
      exact List.set_comm _ _ (by omega)
    · rfl
theorem unsetL_set0 : ∀ (ns : List Nd) (l : List (Int × Int)) (x : Int × Int), posL ns → unsetL ns (l.set 0 x) = (unsetL ns l).set 0 x
  | [], l, x, _ => by rw [unsetL, unsetL]
  | n :: r, l, x, hp => by rw [unsetL, unsetL, unsetN_set0 n l x hp.1, unsetL_set0 r _ x hp.2]
end
theorem pos_nds {h : Hd} {subs : List Nd} (hp : posL subs) (d : Pd) (n : Nat) : posL (ndsOf h subs d n) := by
  have hd : posN ndInh.default := ⟨fun h => absurd h (by decide), trivial⟩
  have hg : ∀ k, posN (subs.getD k ndInh.default) := fun k => by
    rw [List.getD_eq_getElem?_getD]
    cases he : subs[k]? with
    | none => exact hd
    | some v => exact posL_mem hp v (List.mem_of_getElem? he)
  unfold ndsOf
  split
  · exact ⟨hg _, trivial⟩
  · split
    · exact posL_of fun m hm => by rw [List.eq_of_mem_replicate hm]; exact hg _
    · exact hp
mutual
theorem walkN_set0 : ∀ (p : Ps) (n : Nd) (l : List (Int × Int)) (x : Int × Int), posN n → walkN p n (l.set 0 x) = (walkN p n l).set 0 x
  | .mk d ps, .mk h subs, l, x, hp => by
    rw [walkN, walkN, ← walkR_set0 ps _ _ x (pos_nds hp.2 d ps.length)]
    congr 1
    split
    · rename_i hk
      rw [unsetL_set0 subs l x hp.2, setS_set0 (hp.1 hk)]
    · rfl
theorem walkR_set0 : ∀ (ps : List Ps) (ns : List Nd) (l : List (Int × Int)) (x : Int × Int), posL ns → walkR ps ns (l.set 0 x) = (walkR ps ns l).set 0 x
  | [], _, l, x, _ => by rw [walkR, walkR]
  | _ :: _, [], l, x, _ => by rw [walkR, walkR]
  | p :: r, n :: nr, l, x, hp => by rw [walkR, walkR, walkN_set0 p n l x hp.1, walkR_set0 r nr _ x hp.2]
end
theorem spans_told {L : Hd → Int → Int → Bool} {t : Nd} (hf : formB t = true) (a b g : Nat) : spansN t (bestN L t a b) g = toldN L t a b g := by
  unfold spansN toldN spans0
  rw [walkN_set0 _ _ _ _ (form_pos t hf), (best_d (L := L) t a b).1, (best_d (L := L) t a b).2]

/-! ### the best parse is small -/
theorem topN_le (Q : Nat → Prop) : ∀ h, topN Q h ≤ h
  | 0 => Nat.le_refl _
  | h + 1 => by
    rw [topN]
    split
    · exact Nat.le_refl _
    · have := topN_le Q h; omega
theorem cutK_le (R S : Rl) (l a b : Nat) : cutK R S l a b ≤ b := topN_le _ _
theorem smallPL_of : ∀ {l : List Ps}, (∀ p ∈ l, smallP p) → smallPL l
  | [], _ => trivial
  | a :: r, h => ⟨h a (by simp), smallPL_of fun n hn => h n (by simp [hn])⟩
theorem rnds_small {f : Nat → Nat → Ps} {R : Rl} {n : Nat} (hf : ∀ a b, b ≤ n → smallP (f a b)) : ∀ (g : Nat) (mn mx : Int) (a b : Nat), b ≤ n → (rndsR f R g mn mx a b).length ≤ g ∧ ∀ p ∈ rndsR f R g mn mx a b, smallP p
  | 0, mn, mx, a, b, hb => by rw [rndsR]; exact ⟨Nat.le_refl _, fun p hp => by cases hp⟩
  | g + 1, mn, mx, a, b, hb => by
    rw [rndsR]
    split
    · obtain ⟨h1, h2⟩ := rnds_small hf g (max (mn - 1) 0) (if 0 < mx then mx - 1 else mx) (cutK R (rpR R (max (mn - 1) 0) (if 0 < mx then mx - 1 else mx)) (if mn = 0 then a + 1 else a) a b) b hb
      refine ⟨Nat.succ_le_succ h1, fun p hp => ?_⟩
      rcases List.mem_cons.1 hp with rfl | hp
      · exact hf _ _ (Nat.le_trans (cutK_le _ _ _ _ _) hb)
      · exact h2 p hp
    · exact ⟨Nat.zero_le _, fun p hp => by cases hp⟩
theorem rep_small {f : Nat → Nat → Ps} {R : Rl} {n : Nat} (hf : ∀ a b, b ≤ n → smallP (f a b)) (bare : Bool) (mn mx : Int) (hm : mn ≤ 255) (a b : Nat) (hb : b ≤ n) (hn : n ≤ 900000) : (repR f R bare mn mx a b).length ≤ 1000000 ∧ ∀ p ∈ repR f R bare mn mx a b, smallP p := by
  unfold repR
  split
  · exact ⟨Nat.zero_le _, fun p hp => by cases hp⟩
  · split
    · split
      · exact ⟨by simp, fun p hp => by rw [List.mem_singleton] at hp; subst hp; exact hf _ _ hb⟩
      · exact ⟨Nat.zero_le _, fun p hp => by cases hp⟩
    · obtain ⟨h1, h2⟩ := rnds_small (R := R) hf (mn.toNat + (b - a)) mn mx a b hb
      exact ⟨by omega, h2⟩
section
variable {L : Hd → Int → Int → Bool} {n : Nat}
theorem bestS_small : ∀ (l : List Nd) (a b : Nat), (∀ t ∈ l, ∀ a b, b ≤ n → smallP (bestN L t a b)) → b ≤ n → (bestS L l a b).length = l.length ∧ ∀ p ∈ bestS L l a b, smallP p
  | [], a, b, _, _ => by rw [bestS]; exact ⟨rfl, fun p hp => by cases hp⟩
  | t :: r, a, b, ih, hb => by
    rw [bestS]
    obtain ⟨h1, h2⟩ := bestS_small r (cutK (tkN L t) (tkS L r) a a b) b (fun t ht => ih t (by simp [ht])) hb
    refine ⟨by rw [List.length_cons, h1, List.length_cons], fun p hp => ?_⟩
    rcases List.mem_cons.1 hp with rfl | hp
    · exact ih t (by simp) _ _ (Nat.le_trans (cutK_le _ _ _ _ _) hb)
    · exact h2 p hp
theorem bestA_small : ∀ (l : List Nd) (a b : Nat), (∀ t ∈ l, ∀ a b, b ≤ n → smallP (bestN L t a b)) → b ≤ n → smallP (bestA L l a b)
  | [], a, b, _, _ => by rw [bestA]; exact ⟨Nat.zero_le _, trivial⟩
  | t :: r, a, b, ih, hb => by
    rw [bestA]
    split
    · exact ih t (by simp) a b hb
    · exact bestA_small r a b (fun t ht => ih t (by simp [ht])) hb
theorem best_small (hn : n ≤ 900000) : ∀ t : Nd, formB t = true → smallN t → ∀ a b : Nat, b ≤ n → smallP (bestN L t a b) := Nd.ind fun h subs ih hf hsm a b hb => by
  have IH : ∀ t ∈ subs, ∀ a b, b ≤ n → smallP (bestN L t a b) := fun t ht => ih t ht (form_sub hf t ht) (smallL_mem hsm.2 t ht)
  have key : ∀ (d : Pd) (ls : List Ps), ls.length ≤ 1000000 → (∀ p ∈ ls, smallP p) → smallP (.mk d ls) := fun d ls h1 h2 => ⟨h1, smallPL_of h2⟩
  rw [bestN]
  by_cases h1 : h.kind = 6 ∨ h.kind = 7
  · rw [if_pos h1]
    exact key _ _ (by simp) (fun p hp => by rw [List.mem_singleton] at hp; subst hp; exact bestA_small subs a b IH hb)
  · rw [if_neg h1]
    by_cases h2 : h.kind = 5
    · rw [if_pos h2]
      obtain ⟨h3, h4⟩ := bestS_small subs a b IH hb
      exact key _ _ (by rw [h3]; exact hsm.1) h4
    · rw [if_neg h2]
      by_cases h3 : h.kind = 8
      · rw [if_pos h3]
        have hm : h.min ≤ 255 := by
          rcases form_cases hf with q | q | q | q | q | q | q | q
          all_goals first | exact q.2.2.2.1 | omega
        obtain ⟨h4, h5⟩ := rep_small (f := fun x y => bestA L subs x y) (R := fun x y => tkA L subs x y) (n := n) (fun a b hb => bestA_small subs a b IH hb) h.bare h.min h.max hm a b hb hn
        exact key _ _ h4 h5
      · rw [if_neg h3]
        exact key _ _ (by simp) (fun p hp => by cases hp)
end
theorem lfR_leaf {s : ByteArray} {c e : Int} (h : Hd) (a b : Int) (hl : lfR s c e false h a b = true) : leafB s c e h a b = true := by
  unfold lfR at hl
  simp only [Bool.and_eq_true, decide_eq_true_eq] at hl
  obtain ⟨⟨h1, h2⟩, h3⟩ := hl
  unfold leafB
  split at h3
  · rename_i hk; rw [if_pos hk]; exact h3
  · rename_i hk
    rw [if_neg hk]
    split at h3
    · rename_i hk; rw [if_pos hk]; exact h3
    · rename_i hk
      rw [if_neg hk]
      split at h3
      · rename_i hk
        rw [if_pos hk]
        simp only [Bool.and_eq_true, decide_eq_true_eq] at h3 ⊢
        refine ⟨h3.1, ?_⟩
        have := h3.2
        unfold srByte at this
        rw [if_pos ⟨h1, h3.1.1⟩] at this
        simpa using this
      · rename_i hk; rw [if_neg hk]; exact h3
theorem best_parse {s : ByteArray} {c e : Int} (t : Nd) (hf : formB t = true) (a b : Nat) (ht : tkN (lfR s c e false) t a b) (hb : b ≤ s.size) : parseN s.size (leafB s c e) (bestN (lfR s c e false) t a b) t = true :=
  best_ok (lfR_ok s c e false) lfR_leaf t hf a b ht hb

end Go.Proofs.YtgfknlkpdiejgaaGreatDoor

namespace Go.Proofs.YtgfknlkpdiejgaaGreatDoor
open Go Go.RowKit

/-- The list of children: each in memory as it was in W; the list lies in W, or is new behind w. -/
def Subs2 (W w w' : World) (nds : List Nd) (v : Value) : Prop := ∃ A c, v = .slice A nds.length c ∧ ∀ j (hj : j < nds.length), ∃ g o sv, A = some ⟨g, o, none⟩ ∧ NdAt w' g (o + j * 10) (nds[j]).h sv ∧ NdCap W nds[j] sv ∧ (g < W.heap.size ∨ w.heap.size ≤ g)
def RetSubs2 (W w : World) (nds : List Nd) (ok : Bool) (r : Ending) (w' : World) : Prop := ∃ v, r = .returned (.tuple #[v, .bool ok]) ∧ (ok = true → Subs2 W w w' nds v) ∧ Ext w w'
theorem NdAt.lt {w : World} {g o : Nat} {h : Hd} {sv : Value} (hn : NdAt w g o h sv) : g < w.heap.size := World.block_lt_of_cell? w ⟨g, o + 0, none⟩ (hn 0 (by decide))
theorem Subs2.kids {W w w' : World} {h : Hd} {subs : List Nd} {A : Option Addr} {c : Nat} (hn : NdCap W (.mk h subs) (.slice A subs.length c)) (hx : Ext W w') : Subs2 W w w' subs (.slice A subs.length c) :=
  ⟨A, c, rfl, fun j hj => by
    obtain ⟨g, o, sv, h1, h2, h3⟩ := hn.get j hj
    exact ⟨g, o, sv, h1, h2.ext hx, h3, .inl h2.lt⟩⟩
theorem Subs2.cut {W w w' : World} {h : Hd} {subs : List Nd} {g o n c : Nat} (hn : NdCap W (.mk h subs) (.slice (some ⟨g, o, none⟩) n c)) (hx : Ext W w') (k : Nat) (hk : k < subs.length) (c' : Nat) : Subs2 W w w' [subs[k]] (.slice (some ⟨g, o + k * 10, none⟩) 1 c') :=
  ⟨_, c', rfl, fun j hj => by
    obtain ⟨g1, o1, sv, h1, h2, h3⟩ := hn.get k hk
    simp only [Option.some.injEq, Addr.mk.injEq, and_true] at h1
    obtain ⟨rfl, rfl⟩ := h1
    obtain rfl : j = 0 := by simpa using hj
    exact ⟨g, o + k * 10, sv, rfl, by rw [Nat.zero_mul, Nat.add_zero]; exact h2.ext hx, h3, .inl h2.lt⟩⟩
theorem Subs2.rep {W w w' : World} {v : Value} {n : Nd} {sv : Value} {k : Nat} (hO : OwnR w' w.heap.size 27 10 v (List.replicate k (nodeC n.h sv))) (hn : NdCap W n sv) : Subs2 W w w' (List.replicate k n) v := by
  rcases hO.slice with ⟨rfl, h0⟩ | ⟨g, cap, cur, hv, hB, _, hcap, _⟩
  · have : k = 0 := by
      have := congrArg List.length h0
      simpa using this
    subst this
    exact ⟨none, 0, rfl, fun j hj => absurd hj (by simp)⟩
  · subst hv
    refine ⟨some ⟨g, 0, none⟩, cap, by simp, fun j hj => ⟨g, 0, sv, rfl, fun i hi => ?_, by simpa using hn, .inr hB⟩⟩
    have hj' : j < k := by simpa using hj
    have := hO.cell j (nodeC n.h sv) (by simp [hj']) i hi
    rw [show 0 + j * 10 + i = j * 10 + i by omega, this]
    simp

theorem Subs2.back {W w v' w' : World} {nds : List Nd} {v : Value} (h : Subs2 W v' w' nds v) (hs : w.heap.size ≤ v'.heap.size) : Subs2 W w w' nds v := by
  obtain ⟨A, c, e, hk⟩ := h
  refine ⟨A, c, e, fun j hj => ?_⟩
  obtain ⟨g, o, sv, h1, h2, h3, h4⟩ := hk j hj
  exact ⟨g, o, sv, h1, h2, h3, h4.imp id (Nat.le_trans hs)⟩

set_option maxRecDepth 100000 in
set_option maxHeartbeats 8000000 in
theorem subs_st (W : World) (h : Hd) (subs : List Nd) (svn : Value) (d : Pd) (ps : List Ps) (svp : Value) (w : World) (hn : NdCap W (.mk h subs) svn) (hWw : Ext W w) (hp : PsOk w (.mk d ps) svp) (hf : formB (.mk h subs) = true) (hlen : ps.length ≤ 1000000) (hsl : subs.length ≤ 1000000) :
    Calls Tryz.prog 81 #[nodeV h svn, psV d svp] w (RetSubs2 W w (if h.kind < 5 then [] else ndsOf h subs d ps.length) (okR h subs.length d ps)) := by
  obtain ⟨A, c1, rfl⟩ := hp.shape
  obtain ⟨A', c2, rfl⟩ := hn.ok.shape
  simp only [Ps.subs, Nd.subs] at *
  have hcase := form_cases hf
  have HP := Lib.hid hp
  have HN := Lib.hid hn
  obtain ⟨ok, HO⟩ : ∃ ok, Hid (ok = okR h subs.length d ps) := ⟨_, Lib.hid rfl⟩
  obtain ⟨nds, HD⟩ : ∃ nds, Hid (nds = if h.kind < 5 then [] else ndsOf h subs d ps.length) := ⟨_, Lib.hid rfl⟩
  rw [← HO.out, ← HD.out]
  clear hf hp hn
  go_enter Tryz.func81, Tryz.ntmps81
  go_upto_region 1 with (first
    | (refine wpl_boxNd rfl _ rfl h _ rfl ?_; intro z w1 hb hx1 ex sx)
    | (refine wpl_boxPs rfl _ rfl d _ rfl ?_; intro y w2 hc hx2 ey sy))
  have hb2 := hb.ext hx2
  have hx12 := hx1.trans hx2
  clear hb hx1 hx2 ex sx ey sy
  have n0 : w2.cell? ⟨z, 0, none⟩ = some (.int .i64 h.kind) := hb2.cell 0
  have n5 : w2.cell? ⟨z, 5, none⟩ = some (.slice A' subs.length c2) := hb2.cell 5
  have n7 : w2.cell? ⟨z, 7, none⟩ = some (.int .i64 h.min) := hb2.cell 7
  have n8 : w2.cell? ⟨z, 8, none⟩ = some (.int .i64 h.max) := hb2.cell 8
  have n9 : w2.cell? ⟨z, 9, none⟩ = some (.bool h.bare) := hb2.cell 9
  have p2 : w2.cell? ⟨y, 2, none⟩ = some (.int .i64 d.k) := hc.cell 2
  have p3 : w2.cell? ⟨y, 3, none⟩ = some (.slice A ps.length c1) := hc.cell 3
  clear hb2 hc
  have HLE := Lib.hid (show ∀ k : Nat, ((ps.length : Int) == (k : Int)) = decide (ps.length = k) from fun k => by rw [Bool.eq_iff_iff]; simp; omega)
  have hk : h.kind < 5 ∨ h.kind = 5 ∨ h.kind = 6 ∨ h.kind = 7 ∨ h.kind = 8 := by omega
  rcases hk with hk | hk | hk | hk | hk
  · -- a leaf
    have HO2 := Lib.hid (show ok = ((ps.length : Int) == ((0 : Nat) : Int)) by rw [HO.out, HLE.out]; unfold okR; rw [if_neg (by omega), if_neg (by omega), if_neg (by omega), if_neg (by omega)])
    have HD2 := Lib.hid (show nds = [] by rw [HD.out, if_pos hk])
    have e5 : (h.kind == 5) = false := by rw [beq_eq_false_iff_ne]; omega
    have e6 : (h.kind == 6) = false := by rw [beq_eq_false_iff_ne]; omega
    have e7 : (h.kind == 7) = false := by rw [beq_eq_false_iff_ne]; omega
    have e8 : (h.kind == 8) = false := by rw [beq_eq_false_iff_ne]; omega
    clear HO HD HP HN hk hcase n5 n7 n8 n9 p2 HLE
    go_wp2
    go_ret2
    exact ⟨_, by rw [HO2.out]; rfl, fun _ => by rw [HD2.out]; exact ⟨none, 0, rfl, fun j hj => absurd hj (by simp)⟩, hx12⟩
  · -- a row
    have HO2 := Lib.hid (show ok = ((ps.length : Int) == ((subs.length : Nat) : Int)) by rw [HO.out, HLE.out]; unfold okR; rw [if_pos hk])
    have HD2 := Lib.hid (show nds = subs by rw [HD.out, if_neg (by omega)]; unfold ndsOf; rw [if_neg (by omega), if_neg (by omega)])
    rw [hk] at n0
    have q5 := cell_plus n5
    clear HO HD HP hk hcase n7 n8 n9 p2 HLE
    go_upto_region 4 with fail
    refine wp_region_plus (by kernel_rfl) (by kernel_rfl) ?_
    repeat (go_big_quiet_step (fail))
    refine wpQuiet_nil ?_
    intro v
    clear q5 n0 n5 p3
    have hx := hx12.trans (plus_ext _ v)
    go_wp2
    go_ret2
    exact ⟨_, by rw [HO2.out]; rfl, fun _ => by rw [HD2.out]; exact Subs2.kids HN.out (hWw.trans hx), hx⟩
  · -- one of several
    have HO2 := Lib.hid (show ok = decide (ps.length = 1 ∧ 0 ≤ d.k ∧ d.k < subs.length) by rw [HO.out]; unfold okR; rw [if_neg (by omega), if_pos hk])
    have HD2 := Lib.hid (show nds = [subs.getD d.k.toNat ndInh.default] by rw [HD.out, if_neg (by omega)]; unfold ndsOf; rw [if_pos hk])
    rw [hk] at n0
    clear HO HD HP hk hcase n7 n8 n9
    generalize d.k = k at *
    by_cases t1 : ps.length = 1
    case neg =>
      have f1 : ((ps.length : Int) != 1) = true := by rw [bne_iff_ne]; omega
      have FIN := Lib.hid (show ok = false by rw [HO2.out, decide_eq_false (fun h => t1 h.1)])
      clear HO2 HD2 HN HLE t1
      go_wp2
      go_ret2
      exact ⟨_, by rw [FIN.out]; rfl, fun h => absurd (FIN.out.symm.trans h) (by decide), hx12⟩
    have f1 : ((ps.length : Int) != 1) = false := by rw [t1]; rfl
    by_cases t2 : 0 ≤ k
    case neg =>
      have f2 : k < 0 := by omega
      have FIN := Lib.hid (show ok = false by rw [HO2.out, decide_eq_false (fun h => t2 h.2.1)])
      clear HO2 HD2 HN HLE t1 t2
      go_wp2
      go_ret2
      exact ⟨_, by rw [FIN.out]; rfl, fun h => absurd (FIN.out.symm.trans h) (by decide), hx12⟩
    by_cases t3 : k < subs.length
    case neg =>
      have FIN := Lib.hid (show ok = false by rw [HO2.out, decide_eq_false (fun h => t3 h.2.2)])
      clear HO2 HD2 HN HLE t1
      go_wp2
      go_ret2
      exact ⟨_, by rw [FIN.out]; rfl, fun h => absurd (FIN.out.symm.trans h) (by decide), hx12⟩
    obtain ⟨j, rfl⟩ := Int.eq_ofNat_of_zero_le t2
    have hj : j < subs.length := by omega
    obtain ⟨g, o, sv, rfl, _, _⟩ := HN.out.get j hj
    have hroom := HN.out.room.2
    have FIN := Lib.hid (show ok = true by rw [HO2.out, decide_eq_true ⟨t1, t2, t3⟩])
    have HD3 := Lib.hid (show nds = [subs[j]] by rw [HD2.out, Int.toNat_natCast, List.getD_eq_getElem?_getD, List.getElem?_eq_getElem hj]; rfl)
    have hw : IntKind.i64.wrap ((j : Int) + 1) = (j : Int) + 1 := by rw [IntKind.wrap_i64]; omega
    have t4 : (j : Int) + 1 ≤ (c2 : Int) := by omega
    clear HO2 HD2 HLE t1 t2
    go_wp2
    go_ret2
    exact ⟨_, by rw [FIN.out]; rfl, fun _ => by rw [HD3.out]; exact Subs2.cut HN.out (hWw.trans hx12) j hj (c2 - j), hx12⟩
  · -- a group
    have HO2 := Lib.hid (show ok = ((ps.length : Int) == ((1 : Nat) : Int)) by rw [HO.out, HLE.out]; unfold okR; rw [if_neg (by omega), if_neg (by omega), if_pos hk])
    have HD2 := Lib.hid (show nds = subs by rw [HD.out, if_neg (by omega)]; unfold ndsOf; rw [if_neg (by omega), if_neg (by omega)])
    rw [hk] at n0
    clear HO HD HP hk hcase n7 n8 n9 p2 HLE
    go_wp2
    go_ret2
    exact ⟨_, by rw [HO2.out]; rfl, fun _ => by rw [HD2.out]; exact Subs2.kids HN.out (hWw.trans hx12), hx12⟩
  · -- a repeat
    have hs1 : subs.length = 1 := by omega
    have hm0 : 0 ≤ h.min := by omega
    have hmx : -1 ≤ h.max := by omega
    have HO2 := Lib.hid (show ok = (decide (h.min ≤ ps.length) && (decide (h.max = -1) || decide (ps.length ≤ h.max)) && (decide (empN (ps.drop h.min.toNat) = 0) || (decide (ps.length = 1) && decide (h.min = 0) && !h.bare))) by
      rw [HO.out]; unfold okR; rw [if_neg (by omega), if_neg (by omega), if_neg (by omega), if_pos hk])
    have HD2 := Lib.hid (show nds = List.replicate ps.length (subs.getD 0 ndInh.default) by rw [HD.out, if_neg (by omega)]; unfold ndsOf; rw [if_neg (by omega), if_pos hk])
    obtain ⟨n, rfl⟩ := len_one hs1
    obtain ⟨g0, o0, sv0, rfl, hat0, hok0⟩ := HN.out.get 0 (by simp)
    simp only [List.getElem_cons_zero, Nat.zero_mul, Nat.add_zero, List.length_singleton] at hat0 hok0 n5
    rw [hk] at n0
    clear HO HD HN hk hcase p2 hs1
    generalize h.min = mn at *
    generalize h.max = mx at *
    generalize h.bare = bare at *
    obtain ⟨m, rfl⟩ := Int.eq_ofNat_of_zero_le hm0
    by_cases t1 : ps.length < m
    · have t2 : (ps.length : Int) < (m : Int) := by omega
      have FIN := Lib.hid (show ok = false by rw [HO2.out, decide_eq_false (by omega : ¬ (m : Int) ≤ (ps.length : Int))]; rfl)
      clear HO2 HD2 HP HLE t1
      go_wp2
      go_ret2
      exact ⟨_, by rw [FIN.out]; rfl, fun h => absurd (FIN.out.symm.trans h) (by decide), hx12⟩
    have t2 : ¬ (ps.length : Int) < (m : Int) := by omega
    by_cases t3 : mx ≠ -1 ∧ mx < (ps.length : Int)
    · obtain ⟨t3, t4⟩ := t3
      have f1 : (mx != -1) = true := by rw [bne_iff_ne]; exact t3
      have FIN := Lib.hid (show ok = false by rw [HO2.out, decide_eq_false t3, decide_eq_false (by omega : ¬ (ps.length : Int) ≤ mx)]; simp)
      clear HO2 HD2 HP HLE t1 t3
      go_wp2
      go_ret2
      exact ⟨_, by rw [FIN.out]; rfl, fun h => absurd (FIN.out.symm.trans h) (by decide), hx12⟩
    have HO3 := Lib.hid (show ok = (decide (empN (ps.drop m) = 0) || (decide (ps.length = 1) && decide ((m : Int) = 0) && !bare)) by
      have e1 : (decide (mx = -1) || decide ((ps.length : Int) ≤ mx)) = true := by simp; omega
      rw [HO2.out, e1, decide_eq_true (by omega : (m : Int) ≤ (ps.length : Int)), Int.toNat_natCast]
      rfl)
    clear HO2
    go_upto_region 12 with fail
    go_cut [72] (fun v wx => v = .bool false ∧ w2 = wx)
    case first =>
      clear HO3 HD2 HP HLE
      by_cases t4 : mx = -1
      · have f1 : (mx != -1) = false := by rw [t4]; rfl
        clear t4 t3
        go_wp2
        go_meet
        case rel => exact ⟨rfl, rfl⟩
      · have f1 : (mx != -1) = true := by rw [bne_iff_ne]; exact t4
        have f2 : ¬ mx < (ps.length : Int) := fun h => t3 ⟨t4, h⟩
        clear t4 t3
        go_wp2
        go_meet
        case rel => exact ⟨rfl, rfl⟩
    obtain ⟨rfl, rfl⟩ := hcut
    have hml : m ≤ ps.length := by omega
    clear t3 n0 n8 t1 t2
    have hO0 : OwnR w2 w2.heap.size 27 10 (.slice none 0 0) (List.replicate 0 (nodeC n.h sv0)) := OwnR.nil _ _ _ _
    have hx22 := Ext.refl w2
    have HSL := Lib.hid hok0.ok.sl
    go_wp2
    go_loopw [7, 8] (fun v i wr => ∃ k : Nat, k ≤ ps.length ∧ i = .int .i64 k ∧ OwnR wr w2.heap.size 27 10 v (List.replicate k (nodeC n.h sv0)) ∧ Ext w2 wr) (fun _ i _ => ps.length - (intOf i).toNat)
    case atStart => exact ⟨0, Nat.zero_le _, rfl, hO0, hx22⟩
    case round =>
      clear hO0 hx22
      obtain ⟨k, hkl, rfl, hO, hxr⟩ := hrel
      have hxw := hx12.trans hxr
      have n5r := hxr.cell n5
      by_cases hlt : k < ps.length
      · have hat := hat0.ext (hWw.trans hxw)
        have t1 : (k : Int) < (ps.length : Int) := by omega
        have HRP := Lib.hid (show List.replicate k (nodeC n.h sv0) ++ [nodeC n.h sv0] = List.replicate (k + 1) (nodeC n.h sv0) from List.replicate_succ'.symm)
        clear HO3 HD2 HP HLE n5 n7 n9 p3 hat0 hok0
        go_upto_region 17 with (first
          | (refine wpl_loadNd rfl _ rfl g0 o0 n.h sv0 rfl hat ?_)
          | (refine wpl_oneNd rfl _ rfl n.h sv0 rfl ?_; intro g5 w5 hg5 hx5 e5 s5)
          | (refine wpList_appR rfl _ _ _ rfl w2.heap.size 27 _ 10 96 Tryz.underlying25 info_ndZ rfl (by decide) u7 _ rfl (hO.ext hx5) g5 1 (nodeC n.h sv0) rfl rfl (fun i _ => by rw [hg5.cell, nodeA_get]) (nodeC_one HSL.out) (by rw [List.length_replicate]; omega) (by rw [List.length_replicate]; omega) (hxr.trans hx5).size ?_; intro v' w6 h1 h2 h3))
        have hO6 := h1
        rw [HRP.out] at hO6
        have hx6 : Ext w2 w6 := (hxr.trans hx5).grown h2 (fun i hi => (hO.own i hi).1)
        clear h1 h2 h3 hg5 hx5 e5 s5 hO hat n5r
        go_wp2
        go_roundw
        case rel =>
          refine ⟨_, _, _, _, _, _, _, _, _, _, _, _, _, _, ⟨k + 1, by omega, ?_, hO6, hx6⟩, rfl⟩
          go_num
        case measure => simp [intOf]; omega
      · have hkk : k = ps.length := by omega
        have t1 : ¬ (k : Int) < (ps.length : Int) := by omega
        subst hkk
        have hm : m ≤ ps.length := by have := hml; omega
        have HEm := Lib.hid (fun W' (hW : Ext w W') => empties_any d ps A ps.length c1 m W' (HP.out.ext hW) hlen hm)
        have n7r := hxr.cell n7
        have n9r := hxr.cell n9
        have p3r := hxr.cell p3
        have HRes := Lib.hid (fun W' (hW : Ext wr W') => (by rw [HD2.out]; exact (Subs2.rep (hO.ext hW) hok0).back hx12.size : Subs2 W w W' nds u7))
        have hl1 := HLE.out 1
        clear HP HD2 HLE n5 n5r n7 n9 p3 hat0 hok0 hO hm
        generalize empN (ps.drop m) = en at *
        have q1 : ((en == 0) : Bool) = decide (en = 0) := by rw [Bool.eq_iff_iff]; simp
        have q2 : ((m : Int) == 0) = decide ((m : Int) = 0) := by rw [Bool.eq_iff_iff]; simp
        have HOK : ∃ b1 b2 b3, Hid (b1 = decide (en = 0) ∧ b2 = decide (ps.length = 1) ∧ b3 = decide ((m : Int) = 0)) := ⟨_, _, _, Lib.hid ⟨rfl, rfl, rfl⟩⟩
        obtain ⟨b1, b2, b3, HOK⟩ := HOK
        rw [← HOK.out.1] at q1
        rw [← HOK.out.2.2] at q2
        have hl2 : ((ps.length : Int) == 1) = b2 := by rw [HOK.out.2.1]; exact hl1
        have HO4 := Lib.hid (show ok = (b1 || (b2 && b3 && !bare)) by rw [HO3.out, HOK.out.1, HOK.out.2.1, HOK.out.2.2])
        clear HO3 HOK hl1
        cases b1 <;> cases b2 <;> cases b3 <;> cases bare
        all_goals
          have FIN := Lib.hid HO4.out
          clear HO4
          simp only [Bool.false_or, Bool.true_or, Bool.and_true, Bool.and_false, Bool.not_true, Bool.not_false] at FIN
          go_wp2_with (go_at_call 91; refine (HEm.out _ hxw).mono ?_; rintro e w7 ⟨rfl, hx7⟩; replace n7r := hx7.cell n7r; replace n9r := hx7.cell n9r)
          go_ret2
          exact ⟨_, by rw [FIN.out]; rfl, fun _ => HRes.out _ hx7, hxw.trans hx7⟩

end Go.Proofs.YtgfknlkpdiejgaaGreatDoor

namespace Go.Proofs.YtgfknlkpdiejgaaGreatDoor
open Go Go.RowKit

def unsetI (g : Int) (l : List (Int × Int)) : List (Int × Int) := if g < l.length then l.set g.toNat (-1, -1) else l
def unsetNs : List Int → List (Int × Int) → List (Int × Int)
  | [], l => l
  | g :: r, l => unsetNs r (unsetI g l)
theorem unsetI_len (g : Int) (l : List (Int × Int)) : (unsetI g l).length = l.length := by
  unfold unsetI; split <;> simp
theorem unsetNs_len : ∀ (a : List Int) (l : List (Int × Int)), (unsetNs a l).length = l.length
  | [], l => by rw [unsetNs]
  | g :: r, l => by rw [unsetNs, unsetNs_len r, unsetI_len]
theorem unsetNs_app : ∀ (a b : List Int) (l : List (Int × Int)), unsetNs (a ++ b) l = unsetNs b (unsetNs a l)
  | [], b, l => by simp [unsetNs]
  | g :: a, b, l => by
    show unsetNs (g :: (a ++ b)) l = _
    rw [unsetNs, unsetNs, unsetNs_app a b]
theorem unsetNs_step {a : List Int} {k : Nat} (h : k < a.length) (l : List (Int × Int)) : unsetNs (a.take (k + 1)) l = unsetI a[k] (unsetNs (a.take k) l) := by
  rw [take_snoc a k h, unsetNs_app]
  rfl
mutual
theorem unsetNs_numsN : ∀ (n : Nd) (l : List (Int × Int)), unsetNs (numsN n) l = unsetN n l
  | .mk h subs, l => by
    rw [numsN, unsetNs_app, unsetNs_numsL subs, unsetN]
    congr 1
    by_cases h7 : h.kind = 7
    · simp [h7, unsetNs, unsetI]
    · simp [h7, unsetNs]
theorem unsetNs_numsL : ∀ (s : List Nd) (l : List (Int × Int)), unsetNs (numsL s) l = unsetL s l
  | [], l => by rw [numsL, unsetNs, unsetL]
  | n :: r, l => by rw [numsL, unsetNs_app, unsetNs_numsN n, unsetNs_numsL r, unsetL]
end
end Go.Proofs.YtgfknlkpdiejgaaGreatDoor

namespace Go.Proofs.YtgfknlkpdiejgaaGreatDoor
open Go Go.RowKit
section
variable {sz : Int} {L : Hd → Int → Int → Bool}

theorem PsAt.keeps {w w' : World} {F : Nat → Prop} {g o : Nat} {d : Pd} {sv : Value} (hn : PsAt w g o d sv) (hk : Keeps F w w') (hg : ¬ F g) : PsAt w' g o d sv := fun i hi => by
  have hs : (psC d sv)[i]? = some (psC d sv)[i] := List.getElem?_eq_getElem (by simpa [psC] using hi)
  have := hn i hi
  rw [hs] at this ⊢
  exact cell_keeps this hk hg

theorem own_list {w : World} {B : Nat} {v : Value} {l : List Int} (h : Own1 w B 3 v (cI l)) : ∃ A c, v = .slice A l.length c ∧ ∀ k (hk : k < l.length), ∃ g, A = some ⟨g, 0, none⟩ ∧ B ≤ g ∧ w.cell? ⟨g, k, none⟩ = some (.int .i64 l[k]) := by
  rcases h.slice with ⟨rfl, h0⟩ | ⟨g, cap, cur, rfl, hB, _⟩
  · have : l = [] := by simpa [cI] using h0
    subst this
    exact ⟨none, 0, rfl, fun k hk => absurd hk (Nat.not_lt_zero _)⟩
  · refine ⟨some ⟨g, 0, none⟩, cap, by rw [cI_len], fun k hk => ⟨g, rfl, hB, h.cells.2 k _ ?_⟩⟩
    simp [cI, hk]
theorem own_lt {w : World} {B g nn c : Nat} {l : List (Int × Int)} (hO : OwnSp w B (.slice (some ⟨g, 0, none⟩) nn c) l) : g < w.heap.size := by
  rcases OwnR.slice hO with ⟨h0, _⟩ | ⟨g', cap, cur, hv, _, hB, _⟩
  · cases h0
  · simp only [Value.slice.injEq, Option.some.injEq, Addr.mk.injEq, and_true] at hv
    rw [hv.1]
    exact hB.lt
theorem numsL_mem : ∀ (l : List Nd) (x : Int), x ∈ numsL l → ∃ n ∈ l, x ∈ numsN n
  | [], x, h => by rw [numsL] at h; cases h
  | n :: r, x, h => by
    rw [numsL, List.mem_append] at h
    rcases h with h | h
    · exact ⟨n, by simp, h⟩
    · obtain ⟨m, hm, hx⟩ := numsL_mem r x h
      exact ⟨m, List.mem_cons_of_mem _ hm, hx⟩
theorem nums_pos : ∀ (n : Nd), formB n = true → ∀ x ∈ numsN n, 0 ≤ x := by
  refine Nd.ind fun h subs ih hf x hx => ?_
  have hcase := form_cases hf
  rw [numsN, List.mem_append] at hx
  rcases hx with hx | hx
  · by_cases t : h.kind = 7
    · rw [if_pos t, List.mem_singleton] at hx
      omega
    · rw [if_neg t] at hx
      cases hx
  · obtain ⟨m, hm, hx⟩ := numsL_mem subs x hx
    exact ih m hm (form_sub hf m hm) x hx

theorem laid_nds {h : Hd} {subs : List Nd} {d : Pd} {ps : List Ps} (hf : formB (.mk h subs) = true) (hp : parseN sz L (.mk d ps) (.mk h subs) = true) :
    okR h subs.length d ps = true ∧ (if h.kind < 5 then [] else ndsOf h subs d ps.length) = ndsOf h subs d ps.length ∧ (ndsOf h subs d ps.length).length = ps.length ∧
      ∀ k (hk : k < ps.length), ∃ hk' : k < (ndsOf h subs d ps.length).length, parseN sz L ps[k] (ndsOf h subs d ps.length)[k] = true ∧ (ndsOf h subs d ps.length)[k] ∈ subs := by
  have hcase := form_cases hf
  by_cases hk : 5 ≤ h.kind
  · obtain ⟨ho, hr⟩ := parse_inv hp hk
    have hok : okR h subs.length d ps = true := by
      have := ok_same (sz := sz) (L := L) h subs.length d ps (ndsOf h subs d ps.length) (by omega) (by omega) (by omega)
      rw [ho, hr, Bool.and_true, Bool.and_true] at this
      exact this
    refine ⟨hok, by rw [if_neg (by omega)], (ndsOf_len h subs d ps hf hk hok).symm, fun k hkl => ?_⟩
    obtain ⟨h1, h2⟩ := rowN_get _ _ _ _ hr k hkl
    exact ⟨h1, h2, ndsOf_mem h subs d ps hf hk hok _ (List.getElem_mem h1)⟩
  · have h0 := parse_leaf hp hk
    subst h0
    have hs0 : subs = [] := List.eq_nil_of_length_eq_zero (by omega)
    subst hs0
    have hn : ndsOf h [] d ([] : List Ps).length = [] := by unfold ndsOf; rw [if_neg (by omega), if_neg (by omega)]
    rw [hn]
    refine ⟨?_, by rw [if_pos (by omega)], rfl, fun k hkl => absurd hkl (Nat.not_lt_zero _)⟩
    unfold okR
    rw [if_neg (by omega), if_neg (by omega), if_neg (by omega), if_neg (by omega)]
    rfl
theorem nums_le : ∀ (l : List Nd) (n : Nd), n ∈ l → (numsN n).length ≤ (numsL l).length
  | [], n, h => by cases h
  | a :: r, n, h => by
    rw [numsL, List.length_append]
    rcases List.mem_cons.1 h with rfl | h
    · omega
    · have := nums_le r n h
      omega

set_option maxRecDepth 100000 in
set_option maxHeartbeats 8000000 in
theorem laid_any : ∀ (p : Ps) (n : Nd) (svn svp : Value) (W w : World) (B g nn c : Nat) (l : List (Int × Int)), NdCap W n svn → PsOk W p svp → formB n = true → smallN n → smallP p → (numsN n).length ≤ 1000000 → parseN sz L p n = true → Ext W w → W.heap.size ≤ g → OwnSp w B (.slice (some ⟨g, 0, none⟩) nn c) l →
    Calls Tryz.prog 62 #[nodeV n.h svn, psV p.d svp, .slice (some ⟨g, 0, none⟩) nn c] w fun r w' => r = .returned (.slice (some ⟨g, 0, none⟩) nn c) ∧ OwnSp w' B (.slice (some ⟨g, 0, none⟩) nn c) (walkN p n l) ∧ Keeps (· = g) w w' := by
  refine Ps.ind fun d ps ih n svn svp W w B g nn c l hn hp hf hsm hsp hnu hpar hx hg hO => ?_
  obtain ⟨h, subs⟩ := n
  obtain ⟨A, cs, rfl⟩ := hn.ok.shape
  obtain ⟨A', cp, rfl⟩ := hp.shape
  simp only [Nd.subs, Ps.subs] at *
  show Calls _ _ #[nodeV h _, psV d _, _] _ _
  have IH := Lib.hid ih
  have HN := Lib.hid hn
  have HP := Lib.hid hp
  have HF := Lib.hid hf
  have HSM := Lib.hid hsm
  have HSP := Lib.hid hsp
  have HNUM := Lib.hid hnu
  have HPA := Lib.hid hpar
  obtain ⟨l1, HR⟩ : ∃ l1, Hid (l1 = if h.kind = 7 then setS h.num (d.a, d.b) (unsetL subs l) else l) := ⟨_, Lib.hid rfl⟩
  obtain ⟨nds, HD⟩ : ∃ nds, Hid (nds = ndsOf h subs d ps.length) := ⟨_, Lib.hid rfl⟩
  obtain ⟨res, HRES⟩ : ∃ res, Hid (res = walkR ps nds l1) := ⟨_, Lib.hid rfl⟩
  have hres : walkN (.mk d ps) (.mk h subs) l = res := by rw [walkN, HRES.out, HD.out, HR.out]
  rw [hres]
  have HNN := Lib.hid hO.len
  have hcase := form_cases hf
  clear ih hn hp hf hsm hsp hnu hpar hres
  go_enter Tryz.func62, Tryz.ntmps62
  go_upto_region 1 with (first
    | (refine wpl_boxNd rfl _ rfl h _ rfl ?_; intro z w1 hb hx1 ex sx)
    | (refine wpl_boxPs rfl _ rfl d _ rfl ?_; intro y w2 hc hx2 ey sy))
  have hb2 := hb.ext hx2
  have hx12 := hx1.trans hx2
  replace hO := OwnR.ext hO hx12
  have hkw : Keeps (· = g) w w2 := Keeps.of_ext hx12
  replace hx2 := hx.trans hx12
  have HZG := Lib.hid (own_ne hO hb2 (by decide))
  have HYG := Lib.hid (own_ne hO hc (by decide))
  clear hb hx1 ex sx ey sy hx hx12
  have n0 : w2.cell? ⟨z, 0, none⟩ = some (.int .i64 h.kind) := hb2.cell 0
  have n5 : w2.cell? ⟨z, 5, none⟩ = some (.slice A subs.length cs) := hb2.cell 5
  have n6 : w2.cell? ⟨z, 6, none⟩ = some (.int .i64 h.num) := hb2.cell 6
  have NA := Lib.hid (fun W' (hW : Keeps (· = g) w2 W') => (show NdAt w2 z 0 h _ from hb2.nd).keeps hW HZG.out)
  have hps := hc.ps
  have PA := Lib.hid (fun W' (hW : Keeps (· = g) w2 W') => hps.keeps hW HYG.out)
  clear hps
  have p0 : w2.cell? ⟨y, 0, none⟩ = some (.int .i64 d.a) := hc.cell 0
  have p1 : w2.cell? ⟨y, 1, none⟩ = some (.int .i64 d.b) := hc.cell 1
  have p3 : w2.cell? ⟨y, 3, none⟩ = some (.slice A' ps.length cp) := hc.cell 3
  clear hb2 hc
  have hcn := hcase
  clear hcase
  iterate 13 (go_step)
  go_cut [7, 8] (fun _ _ wx => OwnSp wx B (.slice (some ⟨g, 0, none⟩) nn c) l1 ∧ Keeps (· = g) w2 wx)
  case first =>
    have hcase := hcn
    by_cases t : h.kind = 7
    case neg =>
      have HL1 := Lib.hid (HR.out.trans (if_neg t))
      have t2 : (h.kind == 7) = false := by simpa using t
      clear hcase HR hcn t p0 p1 p3 n5 n6
      generalize h.kind = kd at *
      go_wp2
      go_meet
      case rel => exact ⟨by rw [HL1.out]; exact hO, Keeps.refl _ _⟩
    have HL1 := Lib.hid (HR.out.trans (if_pos t))
    have hs1 : subs.length = 1 := by omega
    have HNP := Lib.hid (show 0 ≤ h.num by omega)
    obtain ⟨n, rfl⟩ := len_one hs1
    obtain ⟨g1, o1, svj, rfl, hat1, hok1⟩ := HN.out.get 0 (by simp)
    simp only [List.getElem_cons_zero, Nat.zero_mul, Nat.add_zero, List.length_singleton] at hat1 hok1 n5
    have hnl : (numsN n).length ≤ 1000000 := by
      have := HNUM.out
      rw [numsN, List.length_append, numsL, numsL, List.append_nil] at this
      omega
    have HCU := Lib.hid (numbers_any n svj w2 (hok1.ext hx2).ok hnl (smallL_mem HSM.out.2 n (by simp)))
    have A1u := Lib.hid (hat1.ext hx2)
    rw [t] at n0
    clear HR hcase hat1 hok1 hs1
    generalize hhn : n.h = hn at *
    have HHN := Lib.hid hhn
    clear hhn
    go_upto_region 3 with (first
      | (refine wpl_loadNd rfl _ rfl g1 o1 hn svj rfl A1u.out ?_)
      | (go_at_call 80; refine HCU.out.mono ?_; rintro e w5 ⟨v5, rfl, hO5, hx5⟩))
    obtain ⟨G, cg, rfl, hgone⟩ := own_list hO5
    have HGL := Lib.hid (own_lt hO)
    have HG := Lib.hid (fun k hk => by
      obtain ⟨b, h1, h2, h3⟩ := hgone k hk
      exact (⟨b, h1, fun e => absurd h2 (by rw [e]; have := HGL.out; omega), h3⟩ : ∃ b, G = some ⟨b, 0, none⟩ ∧ b ≠ g ∧ w5.cell? ⟨b, k, none⟩ = some (.int .i64 (numsN n)[k])))
    have HPOS := Lib.hid (nums_pos n (form_sub HF.out n (by simp)))
    have hOw := OwnR.ext hO hx5
    have hkw5 : Keeps (· = g) w2 w5 := Keeps.of_ext hx5
    clear hgone hO5 HCU A1u hO
    have HN6 := Lib.hid n6
    have HP0 := Lib.hid p0
    have HP1 := Lib.hid p1
    clear n0 n5 n6 p0 p1 p3
    have HUN := Lib.hid (unsetNs_numsN n l)
    generalize numsN n = gone at *
    go_wp2
    go_loopw [8] (fun i wr => ∃ (k : Nat), k ≤ gone.length ∧ i = .int .i64 k ∧ OwnSp wr B (.slice (some ⟨g, 0, none⟩) nn c) (unsetNs (gone.take k) l) ∧ Keeps (· = g) w5 wr) (fun i _ => gone.length - (intOf i).toNat)
    case atStart => exact ⟨0, Nat.zero_le _, rfl, by rw [List.take_zero, unsetNs]; exact hOw, Keeps.refl _ _⟩
    case round =>
      obtain ⟨k, hk, rfl, hO, hkr⟩ := hrel
      by_cases hlt : k < gone.length
      · obtain ⟨b, rfl, hbg, hcb⟩ := HG.out k hlt
        have hcr := hkr.cellb hcb hbg
        have hlk : (unsetNs (gone.take k) l).length = l.length := unsetNs_len _ _
        have hle := HNN.out
        have HST := Lib.hid (unsetNs_step hlt l)
        have hx0 : 0 ≤ gone[k] := HPOS.out _ (List.getElem_mem hlt)
        obtain ⟨j, hj⟩ := Int.eq_ofNat_of_zero_le hx0
        rw [hj] at hcr HST
        have t1 : (k : Int) < (gone.length : Int) := by omega
        clear HG HUN HPOS hcb hj hx0 IH HN HP hOw hkw5
        generalize unsetNs (gone.take k) l = lk at *
        by_cases t : j < nn
        · have t2 : (j : Int) < (nn : Int) := by omega
          have HLE := Lib.hid (show unsetI (j : Int) lk = lk.set j (-1, -1) by unfold unsetI; rw [if_pos (by omega), Int.toNat_natCast])
          go_upto_region 5 with (refine wpl_setSp rfl _ _ rfl rfl B g _ c lk j (-1, -1) rfl rfl hO (by omega) ?_; intro w6 hO6 hk6)
          go_wp2
          go_roundw
          case rel => exact ⟨k + 1, by omega, by go_num, by rw [HST.out, HLE.out]; exact hO6, hkr.trans hk6 (fun _ _ e => e)⟩
          case measure => simp [intOf]; omega
        · have t2 : ¬ (j : Int) < (nn : Int) := by omega
          have HLE := Lib.hid (show unsetI (j : Int) lk = lk by unfold unsetI; rw [if_neg (by omega)])
          go_wp2
          go_roundw
          case rel => exact ⟨k + 1, by omega, by go_num, by rw [HST.out, HLE.out]; exact hO, hkr⟩
          case measure => simp [intOf]; omega
      · have hkl : gone.take k = gone := List.take_of_length_le (by omega)
        rw [hkl, HUN.out] at hO
        have t1 : ¬ (k : Int) < (gone.length : Int) := by omega
        clear HG HUN HPOS hkl hOw hkw5
        go_upto_region 8 with fail
        have HLU : unsetL [n] l = unsetN n l := by rw [unsetL, unsetL]
        obtain ⟨num, hnum⟩ := Int.eq_ofNat_of_zero_le HNP.out
        have HL2 := HL1.out
        rw [HLU, hnum] at HL2
        unfold setS at HL2
        have hul : (unsetN n l).length = nn := by rw [unsetN_len, HNN.out]
        have n6r := hkr.cellb (hx5.cell HN6.out) HZG.out
        have p0r := hkr.cellb (hx5.cell HP0.out) HYG.out
        have p1r := hkr.cellb (hx5.cell HP1.out) HYG.out
        rw [hnum] at n6r
        have hk2r : Keeps (· = g) w2 wr := (Keeps.of_ext hx5).trans hkr (fun _ _ e => e)
        clear HLU HN6 HP0 HP1 HL1 HN HP IH hnum
        generalize unsetN n l = lu at *
        by_cases t4 : num < nn
        · have t5 : (num : Int) < (nn : Int) := by omega
          rw [if_pos (by omega), Int.toNat_natCast] at HL2
          have HL3 := Lib.hid HL2
          clear HL2
          go_upto_region 10 with (refine wpl_setSp rfl _ _ rfl rfl B g _ c lu num (d.a, d.b) rfl rfl hO (by omega) ?_; intro w6 hO6 hk6)
          go_meet
          case rel => exact ⟨by rw [HL3.out]; exact hO6, hk2r.trans hk6 (fun _ _ e => e)⟩
        · have t5 : ¬ (num : Int) < (nn : Int) := by omega
          rw [if_neg (by omega)] at HL2
          have HL3 := Lib.hid HL2
          clear HL2
          go_wp2
          go_meet
          case rel => exact ⟨by rw [HL3.out]; exact hO, hk2r⟩
  obtain ⟨hOc, hkc⟩ := hcut
  rename_i wc
  have hxc := hx2.keep1 hkc hg
  have NC := Lib.hid (NA.out _ hkc)
  have PC := Lib.hid (PA.out _ hkc)
  have hlp : ps.length ≤ 1000000 ∧ subs.length ≤ 1000000 := ⟨HSP.out.1, HSM.out.1⟩
  obtain ⟨hok, hif, hnl, hkid⟩ := laid_nds HF.out HPA.out
  have hcs0 := fun w' (hw : Ext W w') => subs_st W h subs (.slice A subs.length cs) d ps (.slice A' ps.length cp) w' HN.out hw (HP.out.ext hw) HF.out hlp.1 hlp.2
  rw [hif, hok] at hcs0
  rw [← HD.out] at hcs0 hnl hkid
  have HKID := Lib.hid hkid
  have HNL := Lib.hid hnl
  have HCS := Lib.hid hcs0
  have hpl : ps.length ≤ 1000000 := hlp.1
  have HGL := Lib.hid (own_lt hOc)
  have HFS := Lib.hid (form_sub HF.out)
  have HLW := Lib.hid (by have := HNUM.out; rw [numsN, List.length_append] at this; exact (by omega : (numsL subs).length ≤ 1000000))
  have hkw0 : Keeps (· = g) w wc := hkw.trans hkc (fun _ _ e => e)
  have p3 : wc.cell? ⟨y, 3, none⟩ = some (.slice A' ps.length cp) := PC.out 3 (by decide)
  clear hcs0 hif hok hnl hkid hlp HR HD NA PA hkw hO hx2 hkc HF n0 n5 n6 p0 p1 hcn HPA HNUM HN HNN
  go_upto_region 11 with (first
    | (refine wpl_loadNd rfl _ rfl z 0 h _ rfl NC.out ?_)
    | (refine wpl_loadPs rfl _ rfl y 0 d _ rfl PC.out ?_)
    | (go_at_call 81; refine (HCS.out _ hxc).mono ?_; rintro e w3 ⟨v3, rfl, hv3, hx3⟩))
  obtain ⟨A3, c3, rfl, hkids⟩ := hv3 trivial
  have HKI := Lib.hid (fun k (hk : k < nds.length) => (by
    obtain ⟨g1, o1, sv, h1, h2, h3, h4⟩ := hkids k hk
    exact ⟨g1, o1, sv, h1, fun e => (by subst e; have := HGL.out; rcases h4 with h4 | h4 <;> omega), h2, h3⟩ : ∃ g1 o1 sv, A3 = some ⟨g1, o1, none⟩ ∧ g1 ≠ g ∧ NdAt w3 g1 (o1 + k * 10) (nds[k]).h sv ∧ NdCap W nds[k] sv))
  have hO3 := OwnR.ext hOc hx3
  have hkw3 : Keeps (· = g) w w3 := hkw0.trans (Keeps.of_ext hx3) (fun _ _ e => e)
  have p33 := hx3.cell p3
  have hx3W := hxc.trans hx3
  have hk33 : Keeps (· = g) w3 w3 := Keeps.refl _ _
  clear hkids hv3 HCS NC PC hOc hkw0 hxc hx3 p3 HGL
  go_wp2
  go_loopw [2, 11] (fun v i wr => ∃ (k : Nat), k ≤ ps.length ∧ v = .slice (some ⟨g, 0, none⟩) nn c ∧ i = .int .i64 k ∧ OwnSp wr B (.slice (some ⟨g, 0, none⟩) nn c) (walkR (ps.take k) (nds.take k) l1) ∧ Keeps (· = g) w3 wr) (fun _ i _ => ps.length - (intOf i).toNat)
  case atStart => exact ⟨0, Nat.zero_le _, rfl, rfl, by rw [List.take_zero, walkR]; exact hO3, hk33⟩
  case round =>
    clear hk33 hO3
    obtain ⟨k, hk, rfl, rfl, hO, hkr⟩ := hrel
    have hxr := hx3W.keep1 hkr hg
    have c5 := hkr.cellb p33 HYG.out
    by_cases hlt : k < ps.length
    · obtain ⟨hkn, hpr, hmem⟩ := HKID.out k hlt
      obtain ⟨g1, o1, svj, rfl, hg1, hat1, hok1⟩ := HKI.out k hkn
      obtain ⟨g0, o0, svq, rfl, hat0, hok0⟩ := HP.out.get k hlt
      have HST := Lib.hid (walkR_step hlt hkn l1)
      have hnum : (numsN nds[k]).length ≤ 1000000 := Nat.le_trans (nums_le subs _ hmem) HLW.out
      have HC := Lib.hid (IH.out ps[k] (List.getElem_mem hlt) nds[k] svj svq W wr.drew B g nn c (walkR (ps.take k) (nds.take k) l1) hok1 hok0 (HFS.out _ hmem) (smallL_mem HSM.out.2 _ hmem) (smallPL_mem HSP.out.2 _ (List.getElem_mem hlt)) hnum hpr hxr.drewr hg (OwnR.ext hO (Ext.refl wr).drewr))
      have A1 := Lib.hid (hat1.keeps hkr hg1).drew
      have A0 := Lib.hid (hat0.ext hxr).drew
      have t1 : (k : Int) < (ps.length : Int) := by omega
      have t2 : (k : Int) < (nds.length : Int) := by omega
      have hkd : Keeps (· = g) w3 wr.drew := hkr.drew
      have c5d : wr.drew.cell? ⟨y, 3, none⟩ = some (.slice (some ⟨g0, o0, none⟩) ps.length cp) := c5
      clear hnum hpr hmem hok1 hok0 hat0 hat1 hg1 HKID HKI IH HP HFS HLW HSM HSP hO p33
      generalize walkN ps[k] nds[k] (walkR (ps.take k) (nds.take k) l1) = lres at *
      generalize walkR (ps.take k) (nds.take k) l1 = lk at *
      generalize ps[k] = q at *
      generalize nds[k] = nj at *
      generalize hdq : q.d = dq at *
      generalize hhn : nj.h = hn at *
      have HDQ := Lib.hid hdq
      have HHN := Lib.hid hhn
      clear hdq hhn
      go_upto_region 14 with fail
      clear c5
      refine wp_region_still_tail 10 (by kernel_rfl) (by kernel_rfl) ?_
      simp only [List.take_succ_cons, List.take_zero, List.drop_succ_cons, List.drop_zero]
      repeat still_step
      refine wpStill_loadNd _ rfl rfl g1 (o1 + k * 10) hn svj rfl A1.out ?_
      repeat still_step
      refine wpStill_loadPs _ rfl rfl g0 (o0 + k * 4) dq svq rfl A0.out ?_
      repeat still_step
      refine wpStill_nil ?_
      change wpList _ _ _ _ _ wr.drew
      go_wp2_with (go_at_call 62; refine HC.out.mono ?_; rintro e w5 ⟨rfl, hO5, hk5⟩)
      go_roundw
      case rel => exact ⟨k + 1, by omega, rfl, by go_num, by rw [HST.out]; exact hO5, hkd.trans hk5 (fun _ _ e => e)⟩
      case measure => simp [intOf]; omega
    · have hfin : walkR (ps.take k) (nds.take k) l1 = res := by rw [HRES.out, show k = ps.length by omega]; exact walkR_done (HNL.out.symm) l1
      rw [hfin] at hO
      have t1 : ¬ (k : Int) < (ps.length : Int) := by omega
      clear IH HP HKID HKI hfin p33
      go_wp2
      go_ret
      exact ⟨rfl, hO, hkw3.trans hkr (fun _ _ e => e)⟩
end
end Go.Proofs.YtgfknlkpdiejgaaGreatDoor
