/- The fixed fact of layer 22's statements in plain words: (a*)(ab)*(b*) over abb. No program. New trees' lists fit their rooms; their blocks begin with a node. No program. tree.Group as a contract. Condition: the tree lies in memory. Slices of ints that read as a list, and trawlnum.SameInts as a contract. Slices of at most 10^12 elements. -/
import Derived.Test.YtgfknlkpdiejgaaGreatDoorZRankedSpansAR
import Derived.Test.YtgfknlkpdiejgaaGreatDoorZRankedSpansAN
import Derived.Test.YtgfknlkpdiejgaaGreatDoorZRankedSpansAT
import Derived.Test.YtgfknlkpdiejgaaGreatDoorZRankedSpansAG
import Derived.Test.YtgfknlkpdiejgaaGreatDoorZRankedSpansAC
import Derived.Test.YtgfknlkpdiejgaaGreatDoorZRankedSpansAD
import Derived.Test.YtgfknlkpdiejgaaGreatDoorZRankedSpansAJ
import Derived.Test.YtgfknlkpdiejgaaGreatDoorProg
import Derived.Test.YtgfknlkpdiejgaaGreatDoorLib
namespace Go.Proofs.YtgfknlkpdiejgaaGreatDoor
open Go Go.RowKit

def lvS : ByteArray := ⟨#[97, 98, 98]⟩
def stN (n : Nd) : Nd := .mk ⟨8, noS, 0, 0, -1, false⟩ [n]
def gpN (k : Int) (n : Nd) : Nd := .mk ⟨7, noS, k, 0, 0, false⟩ [n]
def lvA : Nd := gpN 1 (stN (leafN 97))
def lvG : Nd := gpN 2 (textN [97, 98])
def lvB : Nd := gpN 3 (stN (leafN 98))
def lvT : Nd := .mk (hdV 5) [lvA, stN lvG, lvB]
theorem lv_seq : seqN [lvA, stN lvG, lvB] = lvT := rfl
theorem lv_text : textN [97, 98] = .mk (hdV 5) [leafN 97, leafN 98] := rfl
theorem lv_leaf (b : Nat) : formB (leafN b) = true := by simp [leafN, formB, formL, formedB]
theorem lv_form : formB lvT = true := by
  simp [lvT, lvA, lvG, lvB, gpN, stN, lv_text, hdV, formB, formL, lv_leaf, formedB, zeroS_no, plainB]
theorem lv_few : 0 ≤ leftN lvT 100 := by
  simp [lvT, lvA, lvG, lvB, gpN, stN, lv_text, leafN, leftN, leftL]
theorem lv_small (n : Nd) (h : 0 ≤ leftN n 100) : smallN n := small_left n 100 (by omega) h
theorem lv_depth : depthN lvT ≤ 200 := by
  simp [lvT, lvA, lvG, lvB, gpN, stN, lv_text, leafN, hdV, depthN, depthA, deepB]
  decide
theorem lv_plain : plainN lvT = true := by simp [lvT, lvA, lvG, lvB, gpN, stN, lv_text, leafN, hdV, plainN, plainL, onceB]
theorem lv_chk : chkN lvT = 0 := by
  have h := size_nodes lvT lv_form
  rw [exp_plain _ lv_form lv_plain] at h
  have hn : nodesN lvT = 12 := by simp [lvT, lvA, lvG, lvB, gpN, stN, lv_text, leafN, nodesN, nodesL]
  rw [hn] at h
  have hd := lv_depth
  unfold chkN
  rw [lv_form, h, if_neg (by decide), if_neg (by omega)]
  decide

section
variable {m : List UInt8}
theorem lv_a (x y : Int) : tkN (lfM lvS m) (leafN 97) x y ↔ x = 0 ∧ y = 1 := by
  rw [leafN, tk_byte rfl]
  have e : ((lvS.size : Nat) : Int) = 3 := rfl
  rw [e]
  constructor
  · rintro ⟨h1, h2, h3, h4⟩
    have h5 : x = 0 ∨ x = 1 ∨ x = 2 := by omega
    rcases h5 with rfl | rfl | rfl
    · exact ⟨rfl, h3⟩
    · exact absurd h4 (by decide)
    · exact absurd h4 (by decide)
  · rintro ⟨rfl, rfl⟩
    exact ⟨by omega, by omega, by omega, by decide⟩
theorem lv_b (x y : Int) : tkN (lfM lvS m) (leafN 98) x y ↔ (x = 1 ∧ y = 2) ∨ (x = 2 ∧ y = 3) := by
  rw [leafN, tk_byte rfl]
  have e : ((lvS.size : Nat) : Int) = 3 := rfl
  rw [e]
  constructor
  · rintro ⟨h1, h2, h3, h4⟩
    have h5 : x = 0 ∨ x = 1 ∨ x = 2 := by omega
    rcases h5 with rfl | rfl | rfl
    · exact absurd h4 (by decide)
    · exact .inl ⟨rfl, h3⟩
    · exact .inr ⟨rfl, h3⟩
  · rintro (⟨rfl, rfl⟩ | ⟨rfl, rfl⟩)
    · exact ⟨by omega, by omega, by omega, by decide⟩
    · exact ⟨by omega, by omega, by omega, by decide⟩
theorem lv_ab (x y : Int) : tkN (lfM lvS m) (textN [97, 98]) x y ↔ x = 0 ∧ y = 2 := by
  rw [lv_text, tk_seq _ _ rfl, tkS, ]
  constructor
  · rintro ⟨c, h1, h2⟩
    rw [tkS_one] at h2
    rw [lv_a] at h1
    rw [lv_b] at h2
    omega
  · rintro ⟨rfl, rfl⟩
    exact ⟨1, (lv_a 0 1).2 ⟨rfl, rfl⟩, (tkS_one _ _ _ _).2 ((lv_b 1 2).2 (.inl ⟨rfl, rfl⟩))⟩
theorem lv_gp (k : Int) (n : Nd) (x y : Int) : tkN (lfM lvS m) (gpN k n) x y ↔ tkN (lfM lvS m) n x y := tk_group _ n rfl x y
theorem lv_st (n : Nd) (x y : Int) : tkN (lfM lvS m) (stN n) x y ↔ ∃ k : Nat, pw (tkN (lfM lvS m) n) k x y := by
  rw [stN, tk_rep _ n rfl]
  unfold rpR
  constructor
  · rintro ⟨k, _, _, h⟩; exact ⟨k, h⟩
  · rintro ⟨k, h⟩; exact ⟨k, by simp, .inl (by simp), h⟩
theorem lv_sa (x y : Int) : tkN (lfM lvS m) (stN (leafN 97)) x y ↔ x = y ∨ (x = 0 ∧ y = 1) := by
  rw [lv_st]
  constructor
  · rintro ⟨k, h⟩
    match k, h with
    | 0, h => exact .inl h
    | 1, ⟨c, h1, h2⟩ => exact .inr (by rw [lv_a] at h1; have h3 : c = y := h2; omega)
    | k + 2, ⟨c, h1, d, h2, _⟩ => rw [lv_a] at h1 h2; omega
  · rintro (rfl | ⟨rfl, rfl⟩)
    · exact ⟨0, rfl⟩
    · exact ⟨1, 1, (lv_a 0 1).2 ⟨rfl, rfl⟩, rfl⟩
theorem lv_sg (x y : Int) : tkN (lfM lvS m) (stN lvG) x y ↔ x = y ∨ (x = 0 ∧ y = 2) := by
  rw [lv_st]
  have hg : ∀ x y, tkN (lfM lvS m) lvG x y ↔ x = 0 ∧ y = 2 := fun x y => by rw [lvG, lv_gp, lv_ab]
  constructor
  · rintro ⟨k, h⟩
    match k, h with
    | 0, h => exact .inl h
    | 1, ⟨c, h1, h2⟩ => exact .inr (by rw [hg] at h1; have h3 : c = y := h2; omega)
    | k + 2, ⟨c, h1, d, h2, _⟩ => rw [hg] at h1 h2; omega
  · rintro (rfl | ⟨rfl, rfl⟩)
    · exact ⟨0, rfl⟩
    · exact ⟨1, 2, (hg 0 2).2 ⟨rfl, rfl⟩, rfl⟩
theorem lv_sb (x y : Int) : tkN (lfM lvS m) (stN (leafN 98)) x y ↔ x = y ∨ (1 ≤ x ∧ x < y ∧ y ≤ 3) := by
  rw [lv_st]
  constructor
  · rintro ⟨k, h⟩
    match k, h with
    | 0, h => exact .inl h
    | 1, ⟨c, h1, h2⟩ => exact .inr (by rw [lv_b] at h1; have h3 : c = y := h2; omega)
    | 2, ⟨c, h1, d, h2, h4⟩ => exact .inr (by rw [lv_b] at h1 h2; have h3 : d = y := h4; omega)
    | k + 3, ⟨c, h1, d, h2, e, h3, _⟩ => rw [lv_b] at h1 h2 h3; omega
  · rintro (rfl | ⟨h1, h2, h3⟩)
    · exact ⟨0, rfl⟩
    · have h4 : (x = 1 ∧ y = 2) ∨ (x = 1 ∧ y = 3) ∨ (x = 2 ∧ y = 3) := by omega
      rcases h4 with ⟨rfl, rfl⟩ | ⟨rfl, rfl⟩ | ⟨rfl, rfl⟩
      · exact ⟨1, 2, (lv_b 1 2).2 (.inl ⟨rfl, rfl⟩), rfl⟩
      · exact ⟨2, 2, (lv_b 1 2).2 (.inl ⟨rfl, rfl⟩), 3, (lv_b 2 3).2 (.inr ⟨rfl, rfl⟩), rfl⟩
      · exact ⟨1, 3, (lv_b 2 3).2 (.inr ⟨rfl, rfl⟩), rfl⟩
theorem lv_s1 (x y : Int) : tkS (lfM lvS m) [lvB] x y ↔ x = y ∨ (1 ≤ x ∧ x < y ∧ y ≤ 3) := by rw [tkS_one, lvB, lv_gp, lv_sb]
theorem lv_s2 (x y : Int) : tkS (lfM lvS m) [stN lvG, lvB] x y ↔ ∃ c, (x = c ∨ (x = 0 ∧ c = 2)) ∧ (c = y ∨ (1 ≤ c ∧ c < y ∧ y ≤ 3)) := by
  rw [tkS]
  constructor
  · rintro ⟨c, h1, h2⟩; exact ⟨c, (lv_sg x c).1 h1, (lv_s1 c y).1 h2⟩
  · rintro ⟨c, h1, h2⟩; exact ⟨c, (lv_sg x c).2 h1, (lv_s1 c y).2 h2⟩
theorem lv_tk : tkN (lfM lvS m) lvT 0 3 := by
  rw [lvT, tk_seq _ _ rfl, tkS]
  exact ⟨1, by rw [lvA, lv_gp, lv_sa]; exact .inr ⟨rfl, rfl⟩, (lv_s2 1 3).2 ⟨1, .inl rfl, .inr (by omega)⟩⟩
theorem cut_eq {R S : Rl} {least a b k : Nat} (hk : k ≤ b) (h1 : least ≤ k) (h2 : R a k) (h3 : S k b) (hm : ∀ j : Nat, j ≤ b → R a j → S j b → j ≤ k) : cutK R S least a b = k :=
  topN_eq hk ⟨h1, h2, h3⟩ (fun j h4 h5 => hm j h4 h5.2.1 h5.2.2)
theorem lv_rnd (b k : Nat) : ∀ (ps : List Ps) (l : List (Int × Int)), walkR ps (List.replicate k (leafN b)) l = l
  | [], l => by rw [walkR]
  | p :: r, l => by
    cases k with
    | zero => rw [List.replicate_zero, walkR]
    | succ k =>
      rw [List.replicate_succ, walkR, lv_rnd b k r]
      obtain ⟨d, ps⟩ := p
      rw [leafN, walkN, if_neg (show ¬ ((2 : Int) = 7) by decide)]
      unfold ndsOf
      rw [if_neg (by simp), if_neg (by simp)]
      cases ps with
      | nil => rw [walkR]
      | cons => rw [walkR]
theorem lv_star (b : Nat) (d : Pd) (ps : List Ps) (l : List (Int × Int)) : walkN (.mk d ps) (stN (leafN b)) l = l := by
  rw [stN, walkN, if_neg (show ¬ ((8 : Int) = 7) by decide)]
  unfold ndsOf
  rw [if_neg (by simp), if_pos rfl]
  exact lv_rnd b ps.length ps l
theorem lv_told : toldN (lfM lvS m) lvT 0 3 3 = [(0, 3), (0, 1), (-1, -1), (1, 3)] := by
  have hL := lfM_ok lvS m
  have c1 : cutK (tkN (lfM lvS m) lvA) (tkS (lfM lvS m) [stN lvG, lvB]) 0 0 3 = 1 := cut_eq (by omega) (by omega) (by rw [lvA, lv_gp, lv_sa]; exact .inr ⟨rfl, rfl⟩) ((lv_s2 _ _).2 ⟨1, .inl rfl, .inr (by omega)⟩) (fun j h1 h2 _ => by
    rw [lvA, lv_gp, lv_sa] at h2
    omega)
  have c2 : cutK (tkN (lfM lvS m) (stN lvG)) (tkS (lfM lvS m) [lvB]) 1 1 3 = 1 := cut_eq (by omega) (by omega) ((lv_sg _ _).2 (.inl rfl)) ((lv_s1 _ _).2 (.inr (by omega))) (fun j h1 h2 _ => by
    rw [lv_sg] at h2
    omega)
  have c3 : cutK (tkN (lfM lvS m) lvB) (tkS (lfM lvS m) []) 1 1 3 = 3 := cut_eq (by omega) (by omega) (by rw [lvB, lv_gp, lv_sb]; exact .inr (by omega)) (by rw [tkS]) (fun j h1 _ _ => h1)
  have t1 : tkN (lfM lvS m) lvA (0 : Nat) (1 : Nat) := by rw [lvA, lv_gp, lv_sa]; exact .inr ⟨rfl, rfl⟩
  have t2 : tkN (lfM lvS m) lvB (1 : Nat) (3 : Nat) := by rw [lvB, lv_gp, lv_sb]; exact .inr (by omega)
  unfold toldN
  rw [lvT, bestN, walkN, if_neg (show ¬ ((hdV 5).kind = 6 ∨ (hdV 5).kind = 7) by decide), if_pos (show (hdV 5).kind = 5 from rfl), if_neg (show ¬ ((hdV 5).kind = 7) by decide)]
  unfold ndsOf
  rw [if_neg (show ¬ ((hdV 5).kind = 6) by decide), if_neg (show ¬ ((hdV 5).kind = 8) by decide)]
  rw [bestS, c1, bestS, c2, bestS, c3, bestS, walkR, walkR, walkR, walkR]
  have w1 : ∀ l, walkN (bestN (lfM lvS m) lvA (0 : Nat) (1 : Nat)) lvA l = setS 1 (0, 1) l := fun l => by
    have hg := walk_group (s := lvS) (m := m) (h := ⟨7, noS, 1, 0, 0, false⟩) (s0 := stN (leafN 97)) (a := 0) (b := 1) rfl t1 l
    rw [show lvA = .mk ⟨7, noS, 1, 0, 0, false⟩ [stN (leafN 97)] from rfl, hg]
    cases hb : bestN (lfM lvS m) (stN (leafN 97)) 0 1 with
    | mk d ps => rw [lv_star]; simp [stN, leafN, unsetN, unsetL]
  have w3 : ∀ l, walkN (bestN (lfM lvS m) lvB (1 : Nat) (3 : Nat)) lvB l = setS 3 (1, 3) l := fun l => by
    have hg := walk_group (s := lvS) (m := m) (h := ⟨7, noS, 3, 0, 0, false⟩) (s0 := stN (leafN 98)) (a := 1) (b := 3) rfl t2 l
    rw [show lvB = .mk ⟨7, noS, 3, 0, 0, false⟩ [stN (leafN 98)] from rfl, hg]
    cases hb : bestN (lfM lvS m) (stN (leafN 98)) 1 3 with
    | mk d ps => rw [lv_star]; simp [stN, leafN, unsetN, unsetL]
  have w2 : ∀ l, walkN (bestN (lfM lvS m) (stN lvG) (1 : Nat) (1 : Nat)) (stN lvG) l = l := fun l => by
    have hn : ¬ tkN (lfM lvS m) lvG (1 : Nat) (1 : Nat) := by rw [lvG, lv_gp, lv_ab]; omega
    have hr : repR (fun x y => bestA (lfM lvS m) [lvG] x y) (fun x y => tkA (lfM lvS m) [lvG] x y) false 0 (-1) 1 1 = [] := by
      unfold repR
      rw [if_neg (show ¬ ((-1 : Int) = 0) by decide), if_pos (show (1 : Nat) = 1 ∧ (0 : Int) = 0 from ⟨rfl, rfl⟩), if_neg (fun h => hn ((tkA_one _ _ _ _).1 h.2))]
    rw [stN, bestN, if_neg (show ¬ ((8 : Int) = 6 ∨ (8 : Int) = 7) by decide), if_neg (show ¬ ((8 : Int) = 5) by decide), if_pos (show (8 : Int) = 8 from rfl), hr, walkN, if_neg (show ¬ ((8 : Int) = 7) by decide), walkR]
  rw [w1, w2, w3]
  rfl
theorem lv_find : fndL (lfM lvS m) lvS.size lvT 0 3 = some [(0, 3), (0, 1), (-1, -1), (1, 3)] := by
  have hM := tkN_mon (lfM_ok lvS m) lvT
  have e : lvS.size = 3 := rfl
  rw [e] at hM ⊢
  have h3 : tkN (lfM lvS m) lvT ((0 : Nat) : Int) (3 : Int) := lv_tk
  rcases endR_cases hM (a := 0) (by omega) with ⟨_, h2⟩ | ⟨k, h1, h2, _, h4, h5⟩
  · exact absurd h3 (h2 3)
  · have h6 := h5 3 h3
    have hk : k = 3 := by omega
    subst hk
    unfold fndL
    rw [find_hit (by omega) h1, Option.map_some]
    simp only
    rw [lv_told]
end

end Go.Proofs.YtgfknlkpdiejgaaGreatDoor

namespace Go.Proofs.YtgfknlkpdiejgaaGreatDoor
open Go Go.RowKit

mutual
theorem NdFp.cap {W : World} : ∀ {n : Nd} {sv : Value} {fp : List Nat}, NdFp W n sv fp → NdCap W n sv
  | .mk _ subs, sv, fp, h => by
    unfold NdFp at h
    unfold NdCap
    rcases h with ⟨rfl, ⟨A, c, rfl⟩, _⟩ | ⟨g, c, fps, rfl, _, ⟨_, hc⟩, h⟩
    · exact ⟨A, c, rfl, Nat.zero_le _, trivial⟩
    · exact ⟨_, c, rfl, hc, NdsFp.cap h⟩
theorem NdsFp.cap {W : World} : ∀ {l : List Nd} {g k : Nat} {fps : List Nat}, NdsFp W l g k fps → NdsCap W l (some ⟨g, 0, none⟩) k
  | [], _, _, _, _ => trivial
  | n :: r, g, k, fps, h => by
    unfold NdsFp at h
    obtain ⟨f1, f2, sv, _, h1, h2, h3⟩ := h
    exact ⟨⟨g, 0, sv, rfl, fun i hi => by rw [Nat.zero_add]; exact h1 i hi, h2.cap⟩, h3.cap⟩
end
theorem NdNew.cap {B : Nat} {W : World} {n : Nd} {sv : Value} (h : NdNew B W n sv) : NdCap W n sv := by
  obtain ⟨fp, h, _⟩ := h
  exact h.cap
theorem form_kind {n : Nd} (hf : formB n = true) : 1 ≤ n.h.kind := by
  obtain ⟨h, subs⟩ := n
  have := form_cases hf
  simp only [Nd.h]
  omega
mutual
/-- What is written into a block that begins with a nought reaches none of its lists. -/
theorem NdFp.off {W W' : World} {z : Nat} (hk : Keeps (· = z) W W') (hz : W.cell? ⟨z, 0, none⟩ = some (.int .i64 0)) : ∀ {n : Nd} {sv : Value} {fp : List Nat}, NdFp W n sv fp → formB n = true → NdCap W' n sv
  | .mk h subs, sv, fp, hn, hf => by
    unfold NdFp at hn
    unfold NdCap
    rcases hn with ⟨rfl, ⟨A, c, rfl⟩, _⟩ | ⟨g, c, fps, rfl, _, ⟨_, hc⟩, hs⟩
    · exact ⟨A, c, rfl, Nat.zero_le _, trivial⟩
    · refine ⟨_, c, rfl, hc, ?_⟩
      have hl : formL subs = true := by rw [formB, Bool.and_eq_true] at hf; exact hf.2
      refine NdsFp.off hk hz hs hl (fun e => ?_)
      match subs, hs, hl, e with
      | [], _, _, e => exact absurd rfl e
      | n :: r, hs, hl, _ => exact fun hg => (by
        subst hg
        unfold NdsFp at hs
        obtain ⟨f1, f2, sv, _, h1, _⟩ := hs
        have h2 := h1 0 (by omega)
        rw [Nat.zero_mul, Nat.zero_add, hz] at h2
        rw [formL, Bool.and_eq_true] at hl
        have h3 := form_kind hl.1
        have h4 : (nodeC n.h sv)[0]? = some (.int .i64 n.h.kind) := rfl
        rw [h4] at h2
        simp only [Option.some.injEq, Value.int.injEq, true_and] at h2
        omega)
theorem NdsFp.off {W W' : World} {z : Nat} (hk : Keeps (· = z) W W') (hz : W.cell? ⟨z, 0, none⟩ = some (.int .i64 0)) : ∀ {l : List Nd} {g k : Nat} {fps : List Nat}, NdsFp W l g k fps → formL l = true → (l ≠ [] → g ≠ z) → NdsCap W' l (some ⟨g, 0, none⟩) k
  | [], _, _, _, _, _, _ => trivial
  | n :: r, g, k, fps, h, hf, hg => by
    unfold NdsFp at h
    obtain ⟨f1, f2, sv, _, h1, h2, h3⟩ := h
    rw [formL, Bool.and_eq_true] at hf
    have hgz := hg (by simp)
    exact ⟨⟨g, 0, sv, rfl, fun i hi => by
      rw [Nat.zero_add]
      have e := h1 i hi
      have hs : (nodeC n.h sv)[i]? = some (nodeC n.h sv)[i] := List.getElem?_eq_getElem (by simpa [nodeC] using hi)
      rw [hs] at e ⊢
      exact cell_keeps e hk hgz, NdFp.off hk hz h2 hf.1⟩, NdsFp.off hk hz h3 hf.2 (fun _ => hgz)⟩
end
/-- A tree with room, that no such write reaches. -/
def CapZ (W : World) (n : Nd) (sv : Value) : Prop := NdCap W n sv ∧ ∀ z W', Keeps (· = z) W W' → W.cell? ⟨z, 0, none⟩ = some (.int .i64 0) → NdCap W' n sv
theorem NdNew.capZ {B : Nat} {W : World} {n : Nd} {sv : Value} (h : NdNew B W n sv) (hf : formB n = true) : CapZ W n sv := by
  obtain ⟨fp, h, _⟩ := h
  exact ⟨h.cap, fun z W' hk hz => NdFp.off hk hz h hf⟩
theorem CapZ.ext {W V : World} {n : Nd} {sv : Value} (h : CapZ W n sv) (hx : Ext W V) : CapZ V n sv :=
  ⟨NdCap.ext hx h.1, fun z V' hk hz => by
    by_cases hzw : z < W.heap.size
    · have e : V.cell? ⟨z, 0, none⟩ = W.cell? ⟨z, 0, none⟩ := World.cell?_of_block (a := ⟨z, 0, none⟩) (Below.block hx z hzw)
      rw [e] at hz
      exact h.2 z V' ((Keeps.of_ext hx).trans hk (fun _ _ h => h)) hz
    · exact NdCap.ext (hx.keep1 hk (by omega)) h.1⟩

end Go.Proofs.YtgfknlkpdiejgaaGreatDoor

namespace Go.Proofs.YtgfknlkpdiejgaaGreatDoor
open Go Go.RowKit

set_option maxRecDepth 100000 in
set_option maxHeartbeats 4000000 in
theorem tgroup_any (num : Int) (n : Nd) (sv : Value) (w : World) (hn : NdOk w n sv) (hsm : smallN n) :
    Calls Tryz.prog 19 #[.int .i64 num, nodeV n.h sv] w (RetNd w (.mk ⟨7, noS, num, 0, 0, false⟩ [n])) := by
  have HC := Lib.hid (fun W (hW : Ext w W) => copy_any n sv W (NdOk.ext hW _ _ hn) hsm)
  have hsl := hn.sl
  clear hn hsm
  go_enter Tryz.func19, Tryz.ntmps19
  go_wp2_with (first
    | (refine wpl_boxNd rfl _ rfl n.h _ rfl ?_; intro b w1 hb hx1 eb sb)
    | (refine wpl_allocNd rfl rfl ?_; intro z w2 hz hx2 ez sz)
    | (refine wpl_loadNd rfl _ rfl b 0 n.h sv rfl (hb.ext hx2).nd ?_)
    | (go_at_call 37; refine (HC.out _ (hx1.trans hx2)).mono ?_; rintro e w6 ⟨sv6, rfl, hn6, hx6⟩)
    | (refine wpl_oneNd rfl _ rfl n.h sv6 rfl ?_; intro g7 w7 hb7 hx7 e7 s7)
    | (refine wpl_storeNd rfl _ _ rfl rfl z ⟨7, noS, num, 0, 0, false⟩ _ (.slice (some ⟨g7, 0, none⟩) 1 1) _ rfl (node_lit _ _ _ _ _ _) (isSl_mk _ _ _) ((hz.ext hx6).ext hx7) ?_; intro w8 hz8 hk8))
  have h1 := hx1.size
  have h2 := hx2.size
  have h6 := hx6.size
  exact ret_nd rfl rfl rfl hz8 ⟨_, rfl, ((NdNew.one hn6 hx7 hb7 e7 h6 _ 1).keep1 hk8 sz).mono (by omega), ((hx1.trans hx2).trans (hx6.trans hx7)).keep1 hk8 (by omega)⟩


end Go.Proofs.YtgfknlkpdiejgaaGreatDoor

namespace Go.Proofs.YtgfknlkpdiejgaaGreatDoor
open Go.RowKit

theorem info_int : (Tryz.prog.info? 3).map (fun i => (i.zero, i.size, i.bytes)) = some (some (.int .i64 0), 1, 8) := by kernel_rfl

def cI (l : List Int) : List Value := l.map (Value.int .i64)
@[simp] theorem cI_len (l : List Int) : (cI l).length = l.length := by simp [cI]
theorem cI_get (l : List Int) (j : Nat) (h : j < l.length) : (cI l)[j]? = some (.int .i64 (l.getD j 0)) := by simp [cI, h]
def i64s (l : List Int) : Array Value := (cI l).toArray
@[simp] theorem i64s_size (l : List Int) : (i64s l).size = l.length := by simp [i64s]
theorem i64s_get (l : List Int) (j : Nat) (h : j < l.length) : (i64s l)[j]? = some (.int .i64 (l.getD j 0)) := by simp [i64s, cI, h]
theorem i64s_set (l : List Int) (j : Nat) (x : Int) : (i64s l).setIfInBounds j (.int .i64 x) = i64s (l.set j x) := by
  apply Array.ext'
  simp [i64s, cI, List.map_set]
theorem made_i64 (n : Nat) : madeCells #[Value.int .i64 0] n = i64s (List.replicate n 0) := by
  apply Array.ext
  · simp [madeCells]
  · intro i h1 h2
    simp [madeCells, i64s, cI, Nat.mod_one]

/-- A slice of ints reads as this list. -/
def RdI (w : World) (v : Value) (l : List Int) : Prop :=
  ∃ A c, v = .slice A l.length c ∧ ∀ j, j < l.length → ∃ g o, A = some ⟨g, o, none⟩ ∧ w.cell? ⟨g, o + j, none⟩ = some (.int .i64 (l.getD j 0))

theorem RdI.ext {w w' : World} {v : Value} {l : List Int} (h : RdI w v l) (hx : Ext w w') : RdI w' v l := by
  obtain ⟨A, c, hv, hc⟩ := h
  exact ⟨A, c, hv, fun j hj => by obtain ⟨g, o, hA, hcell⟩ := hc j hj; exact ⟨g, o, hA, hx.cell hcell⟩⟩
theorem RdI.of_own {w : World} {B : Nat} {e : TypeId} {v : Value} {l : List Int} (h : Own1 w B e v (cI l)) : RdI w v l := by
  rcases Nat.eq_zero_or_pos l.length with h0 | h0
  · rcases h.2 with ⟨rfl, _⟩ | ⟨g, cap, cur, rfl, _⟩
    · exact ⟨none, 0, by rw [h0], fun j hj => by omega⟩
    · exact ⟨some ⟨g, 0, none⟩, cap, by rw [cI_len], fun j hj => by omega⟩
  · obtain ⟨g, cap, rfl, _, _, hc⟩ := h.form (by simpa using h0)
    exact ⟨some ⟨g, 0, none⟩, cap, by rw [cI_len], fun j hj => ⟨g, 0, rfl, by rw [Nat.zero_add]; exact hc j _ (cI_get l j hj)⟩⟩
theorem RdI.of_blk {w : World} {g : Nat} {e : TypeId} {l : List Int} {c : Nat} (h : Blk w g e (i64s l)) : RdI w (.slice (some ⟨g, 0, none⟩) l.length c) l :=
  ⟨_, _, rfl, fun j hj => ⟨g, 0, rfl, by rw [Nat.zero_add, h.cell]; exact i64s_get l j hj⟩⟩

theorem getD_ext (la lb : List Int) (hl : la.length = lb.length) (h : ∀ j, j < la.length → la.getD j 0 = lb.getD j 0) : la = lb := by
  apply List.ext_getElem hl
  intro j h1 h2
  have := h j h1
  rw [List.getD_eq_getElem?_getD, List.getD_eq_getElem?_getD, List.getElem?_eq_getElem h1, List.getElem?_eq_getElem h2] at this
  exact this

end Go.Proofs.YtgfknlkpdiejgaaGreatDoor
