/- The reference's leaf law, turned and not; the turned tree in the turned scene. No program. The reference's Has as a contract over the set's bytes. No condition. The reference's leaf as a contract. Condition: the place is one of the subject's. trawlref11.rounds and Over as contracts: what a right tree leads to. Conditions: the tree and the row lie in memory. -/
import Derived.Test.YtgfknlkpdiejgaaGreatDoorZRankedFindsAM
import Derived.Test.YtgfknlkpdiejgaaGreatDoorZRankedFindsAJ
import Derived.Test.YtgfknlkpdiejgaaGreatDoorZRankedFindsAK
import Derived.Test.YtgfknlkpdiejgaaGreatDoorZRankedFindsAA
import Derived.Test.YtgfknlkpdiejgaaGreatDoorBits
import Derived.Test.YtgfknlkpdiejgaaGreatDoorSetC
import Derived.Test.YtgfknlkpdiejgaaGreatDoorProg
import Derived.Test.YtgfknlkpdiejgaaGreatDoorZRankedFindsAI
import Derived.Test.YtgfknlkpdiejgaaGreatDoorZRankedFindsAC
import Derived.Test.YtgfknlkpdiejgaaGreatDoorZRankedFindsAV
import Derived.Test.YtgfknlkpdiejgaaGreatDoorZRankedFindsAN
import Derived.Test.YtgfknlkpdiejgaaGreatDoorZRankedFindsAP
import Derived.Test.YtgfknlkpdiejgaaGreatDoorZRankedFindsAO
import Derived.Test.YtgfknlkpdiejgaaGreatDoorZRankedFindsAG
namespace Go.Proofs.YtgfknlkpdiejgaaGreatDoor
open Go Go.RowKit

/-- What a leaf takes in the reference's scene. -/
def lfR (s : ByteArray) (c e : Int) (t : Bool) (h : Hd) (a b : Int) : Bool :=
  decide (0 ≤ a) && decide (b ≤ s.size) && (if h.kind = 3 then decide (a = b) && srB s c e t a
    else if h.kind = 4 then decide (a = b) && srE s c e t a
    else if h.kind = 2 then decide (a < s.size) && decide (b = a + 1) && h.set (srByte s t a).toNat
    else decide (a = b))
theorem lfR_ok (s : ByteArray) (c e : Int) (t : Bool) : LOk s.size (lfR s c e t) := fun h a b hL => by
  unfold lfR at hL
  simp only [Bool.and_eq_true, decide_eq_true_eq] at hL
  obtain ⟨⟨h1, h2⟩, h3⟩ := hL
  split at h3
  · simp only [Bool.and_eq_true, decide_eq_true_eq] at h3
    omega
  · split at h3
    · simp only [Bool.and_eq_true, decide_eq_true_eq] at h3
      omega
    · split at h3
      · simp only [Bool.and_eq_true, decide_eq_true_eq] at h3
        omega
      · simp only [decide_eq_true_eq] at h3
        omega
theorem lfM_lfR (s : ByteArray) (c e : Int) : lfM s (mkAt s c e s.size) = lfR s c e false := by
  funext h a b
  have h1 : (bits .and .i64 (sMark (mkAt s c e s.size) a) 1 != 0) = srB s c e false a := new_begin s c e a
  have h2 : (bits .and .i64 (sMark (mkAt s c e s.size) a) 2 != 0) = srE s c e false a := new_end s c e a
  unfold lfM lfR
  rw [h1, h2]
  by_cases ha : 0 ≤ a ∧ a < s.size
  · have e1 : (srByte s false a).toNat = (s.data.toList.getD a.toNat 0).toNat := by
      unfold srByte
      rw [if_pos ha]
      simp
    rw [e1]
  · by_cases h0 : 0 ≤ a
    · have e2 : decide (a < (s.size : Int)) = false := decide_eq_false (by omega)
      rw [e2]
      simp
    · rw [decide_eq_false h0]
      simp
def trnH (h : Hd) : Hd := { h with kind := if h.kind = 3 then 4 else if h.kind = 4 then 3 else h.kind }
mutual
def trnN : Nd → Nd
  | .mk h subs => .mk (trnH h) (if h.kind = 5 then (trnL subs).reverse else trnL subs)
def trnL : List Nd → List Nd
  | [] => []
  | n :: r => trnN n :: trnL r
end
theorem trnL_map : ∀ l : List Nd, trnL l = l.map trnN
  | [] => rfl
  | n :: r => by rw [trnL, trnL_map r, List.map_cons]
theorem trnL_len (l : List Nd) : (trnL l).length = l.length := by rw [trnL_map, List.length_map]
theorem lfR_turn (s : ByteArray) (c e : Int) (h : Hd) (a b : Int) : lfR s c e true (trnH h) a b = lfR s c e false h (s.size - b) (s.size - a) := by
  have hin : srIn s ((s.size : Int) - a) = srIn s a := by unfold srIn; rw [Bool.eq_iff_iff, decide_eq_true_eq, decide_eq_true_eq]; omega
  have hB : srE s c e true a = srB s c e false (s.size - a) := by
    unfold srE srB
    rw [hin]
    simp
  have hE : srB s c e true a = srE s c e false (s.size - a) := by
    unfold srE srB
    rw [hin]
    simp
  have e0 : (decide (0 ≤ a) && decide (b ≤ (s.size : Int))) = (decide (0 ≤ (s.size : Int) - b) && decide ((s.size : Int) - a ≤ s.size)) := by
    rw [Bool.eq_iff_iff]
    simp only [Bool.and_eq_true, decide_eq_true_eq]
    omega
  have e1 : decide (a = b) = decide ((s.size : Int) - b = s.size - a) := by rw [Bool.eq_iff_iff, decide_eq_true_eq, decide_eq_true_eq]; omega
  unfold lfR trnH
  simp only
  rw [e0]
  by_cases k3 : h.kind = 3
  · rw [if_pos k3, if_neg (by decide), if_pos rfl, if_pos k3, hB, e1]
    by_cases hab : a = b
    · subst hab; rfl
    · rw [decide_eq_false (by omega : ¬ ((s.size : Int) - b = s.size - a))]; rfl
  by_cases k4 : h.kind = 4
  · rw [if_neg k3, if_pos k4, if_pos rfl, if_neg k3, if_pos k4, hE, e1]
    by_cases hab : a = b
    · subst hab; rfl
    · rw [decide_eq_false (by omega : ¬ ((s.size : Int) - b = s.size - a))]; rfl
  rw [if_neg k3, if_neg k4, if_neg k3, if_neg k4, if_neg k3, if_neg k4, e1]
  by_cases k2 : h.kind = 2
  · rw [if_pos k2, if_pos k2]
    by_cases hc : 0 ≤ a ∧ a < s.size ∧ b = a + 1
    · obtain ⟨h1, h2, rfl⟩ := hc
      have eb : srByte s true a = srByte s false ((s.size : Int) - (a + 1)) := by
        unfold srByte
        have c1 : (0 : Int) ≤ (s.size : Int) - (a + 1) ∧ (s.size : Int) - (a + 1) < s.size := by omega
        have c2 : s.size - 1 - a.toNat = ((s.size : Int) - (a + 1)).toNat := by omega
        rw [if_pos ⟨h1, h2⟩, if_pos c1, c2]
        simp
      rw [eb, decide_eq_true h2, decide_eq_true (by omega : (s.size : Int) - (a + 1) < s.size), decide_eq_true rfl, decide_eq_true (by omega : (s.size : Int) - a = s.size - (a + 1) + 1)]
    · by_cases h0 : 0 ≤ a
      · have f1 : (decide (a < (s.size : Int)) && decide (b = a + 1)) = false := by
          rw [Bool.eq_false_iff]
          intro h
          simp only [Bool.and_eq_true, decide_eq_true_eq] at h
          exact hc ⟨h0, h⟩
        have f2 : ((decide (0 ≤ (s.size : Int) - b) && decide ((s.size : Int) - a ≤ s.size)) && (decide ((s.size : Int) - b < s.size) && decide ((s.size : Int) - a = s.size - b + 1))) = false := by
          rw [Bool.eq_false_iff]
          intro h
          simp only [Bool.and_eq_true, decide_eq_true_eq] at h
          exact hc ⟨h0, by omega, by omega⟩
        rw [f1, Bool.false_and, Bool.and_false, ← Bool.and_assoc, f2, Bool.false_and]
      · rw [decide_eq_false (by omega : ¬ ((s.size : Int) - a ≤ s.size))]
        simp
  · rw [if_neg k2, if_neg k2]
theorem tk_turn_pw {n : Int} {R R' : Rl} (h : ∀ a b, R' a b ↔ R (n - b) (n - a)) : ∀ k a b, pw R' k a b ↔ pw R k (n - b) (n - a)
  | 0, a, b => by
    show a = b ↔ n - b = n - a
    omega
  | k + 1, a, b => by
    rw [pw_snoc R k]
    constructor
    · rintro ⟨c, h1, h2⟩
      exact ⟨n - c, (tk_turn_pw h k c b).1 h2, (h a c).1 h1⟩
    · rintro ⟨c, h1, h2⟩
      refine ⟨n - c, (h a (n - c)).2 ?_, (tk_turn_pw h k (n - c) b).2 ?_⟩
      · rw [show n - (n - c) = c by omega]; exact h2
      · rw [show n - (n - c) = c by omega]; exact h1
theorem tkS_turn {n : Int} {L L' : Hd → Int → Int → Bool} : ∀ (l l' : List Nd), l'.length = l.length → (∀ i (h1 : i < l.length) (h2 : i < l'.length) a b, tkN L' l'[i] a b ↔ tkN L l[i] (n - b) (n - a)) → ∀ a b, tkS L' l'.reverse a b ↔ tkS L l (n - b) (n - a)
  | [], l', hl, _, a, b => by
    have e : l' = [] := List.eq_nil_of_length_eq_zero hl
    subst e
    rw [List.reverse_nil, tkS, tkS]
    omega
  | x :: r, [], hl, _, a, b => by simp at hl
  | x :: r, x' :: r', hl, h, a, b => by
    have h0 := h 0 (by simp) (by simp)
    have hr := tkS_turn (n := n) r r' (by simpa using hl) (fun i h1 h2 a b => h (i + 1) (by simpa using h1) (by simpa using h2) a b)
    simp only [List.getElem_cons_zero] at h0
    rw [List.reverse_cons, tkS_app, tkS]
    simp only [tkS_one]
    constructor
    · rintro ⟨d, h1, h2⟩
      exact ⟨n - d, (h0 d b).1 h2, (hr a d).1 h1⟩
    · rintro ⟨d, h1, h2⟩
      refine ⟨n - d, (hr a (n - d)).2 ?_, (h0 (n - d) b).2 ?_⟩
      · rw [show n - (n - d) = d by omega]; exact h2
      · rw [show n - (n - d) = d by omega]; exact h1
/-- The turned tree in the turned scene: read from behind. -/
theorem tk_turn (s : ByteArray) (c e : Int) : ∀ t : Nd, (t.h.kind = 7 ∨ t.h.kind = 8 → t.subs.length = 1) → formB t = true → ∀ a b, tkN (lfR s c e true) (trnN t) a b ↔ tkN (lfR s c e false) t (s.size - b) (s.size - a) := Nd.ind fun h subs ih _ hf a b => by
  have hcase := form_cases hf
  have hsub := form_sub hf
  have hone : ∀ t ∈ subs, (t.h.kind = 7 ∨ t.h.kind = 8 → t.subs.length = 1) := fun t ht hk => by
    have h1 := form_cases (h := t.h) (subs := t.subs) (by have := hsub t ht; cases t; exact this)
    omega
  have IH : ∀ t ∈ subs, ∀ a b, tkN (lfR s c e true) (trnN t) a b ↔ tkN (lfR s c e false) t (s.size - b) (s.size - a) := fun t ht => ih t ht (hone t ht) (hsub t ht)
  rw [trnN]
  by_cases k5 : h.kind = 5
  · rw [if_pos k5, tk_seq _ _ (by unfold trnH; simp only; rw [if_neg (by omega), if_neg (by omega)]; exact k5), tk_seq h subs k5]
    refine tkS_turn subs (trnL subs) (trnL_len subs) (fun i h1 h2 a b => ?_) a b
    have e : (trnL subs)[i] = trnN subs[i] := by simp only [trnL_map, List.getElem_map]
    rw [e]
    exact IH _ (List.getElem_mem h1) a b
  by_cases k6 : h.kind = 6
  · rw [if_neg k5, tk_alt _ _ (by unfold trnH; simp only; rw [if_neg (by omega), if_neg (by omega)]; exact k6), tk_alt h subs k6, tkA_iff, tkA_iff, trnL_map]
    constructor
    · rintro ⟨t', h1, h2⟩
      obtain ⟨t, h3, rfl⟩ := List.mem_map.1 h1
      exact ⟨t, h3, (IH t h3 a b).1 h2⟩
    · rintro ⟨t, h1, h2⟩
      exact ⟨trnN t, List.mem_map.2 ⟨t, h1, rfl⟩, (IH t h1 a b).2 h2⟩
  by_cases k7 : h.kind = 7
  · obtain ⟨t0, rfl⟩ := List.length_eq_one_iff.1 (show subs.length = 1 by omega)
    rw [if_neg k5, trnL, trnL, tk_group _ _ (by unfold trnH; simp only; rw [if_neg (by omega), if_neg (by omega)]; exact k7), tk_group h t0 k7]
    exact IH t0 (by simp) a b
  by_cases k8 : h.kind = 8
  · obtain ⟨t0, rfl⟩ := List.length_eq_one_iff.1 (show subs.length = 1 by omega)
    rw [if_neg k5, trnL, trnL, tk_rep _ _ (by unfold trnH; simp only; rw [if_neg (by omega), if_neg (by omega)]; exact k8), tk_rep h t0 k8]
    unfold rpR
    have hp := tk_turn_pw (n := s.size) (IH t0 (by simp))
    constructor
    · rintro ⟨k, h1, h2, h3⟩; exact ⟨k, h1, h2, (hp k a b).1 h3⟩
    · rintro ⟨k, h1, h2, h3⟩; exact ⟨k, h1, h2, (hp k a b).2 h3⟩
  · have hkk : ¬ (5 ≤ (trnH h).kind ∧ (trnH h).kind ≤ 8) := by
      unfold trnH
      simp only
      split
      · omega
      · split <;> omega
    rw [if_neg k5, leaf_img _ _ hkk, leaf_img h subs (by omega), lfR_turn]

end Go.Proofs.YtgfknlkpdiejgaaGreatDoor

namespace Go.Proofs.YtgfknlkpdiejgaaGreatDoor
open Go.RowKit

theorem word_rem (x k : Nat) (_h : x < 18446744073709551616) : (Int.tmod ((x : Int) / 2 ^ k) 2 == 1) = x.testBit k := by
  have e : ((x : Int) / 2 ^ k) = ((x / 2 ^ k : Nat) : Int) := by
    rw [Int.natCast_ediv, Int.natCast_pow]; rfl
  rw [e, Int.tmod_eq_emod_of_nonneg (Int.natCast_nonneg _), Nat.testBit_eq_decide_div_mod_eq, Bool.eq_iff_iff, beq_iff_eq, decide_eq_true_eq]
  generalize x / 2 ^ k = y
  omega

set_option maxHeartbeats 1000000 in
theorem rHas_any (p : Nat → Bool) (b : Nat) (w : World) (hb : b < 256) :
    Calls Tryz.prog 88 #[setV p, .int .u8 b] w fun r w' => r = .returned (.bool (p b)) ∧ Ext w w' := by
  unfold setV u64v
  have h3 : Int.tmod (b : Int) 64 = ((b % 64 : Nat) : Int) := by
    rw [Int.tmod_eq_emod_of_nonneg (by omega)]; omega
  have hB := fun i => word_rem (wd p i) (b % 64) (wd_lt p i)
  have hC : ∀ i, b / 64 = i → (wd p i).testBit (b % 64) = p b := fun i hi => by
    rw [wd_bit _ _ _ (by omega)]
    congr 1
    omega
  have HB := Lib.hid hB
  have HC := Lib.hid hC
  clear hB hC
  rcases (show b / 64 = 0 ∨ b / 64 = 1 ∨ b / 64 = 2 ∨ b / 64 = 3 from by omega) with h | h | h | h
  · have h1 : Int.tdiv (b : Int) 64 = 0 := by rw [Int.tdiv_eq_ediv_of_nonneg (by omega)]; omega
    have HCC := Lib.hid (HC.out _ h)
    clear h
    go_enter Tryz.func88, Tryz.ntmps88
    go_wp2
    go_ret
    exact ⟨ret_bool ((HB.out 0).trans HCC.out), (Ext.refl w).alloc _⟩
  · have h1 : Int.tdiv (b : Int) 64 = 1 := by rw [Int.tdiv_eq_ediv_of_nonneg (by omega)]; omega
    have HCC := Lib.hid (HC.out _ h)
    clear h
    go_enter Tryz.func88, Tryz.ntmps88
    go_wp2
    go_ret
    exact ⟨ret_bool ((HB.out 1).trans HCC.out), (Ext.refl w).alloc _⟩
  · have h1 : Int.tdiv (b : Int) 64 = 2 := by rw [Int.tdiv_eq_ediv_of_nonneg (by omega)]; omega
    have HCC := Lib.hid (HC.out _ h)
    clear h
    go_enter Tryz.func88, Tryz.ntmps88
    go_wp2
    go_ret
    exact ⟨ret_bool ((HB.out 2).trans HCC.out), (Ext.refl w).alloc _⟩
  · have h1 : Int.tdiv (b : Int) 64 = 3 := by rw [Int.tdiv_eq_ediv_of_nonneg (by omega)]; omega
    have HCC := Lib.hid (HC.out _ h)
    clear h
    go_enter Tryz.func88, Tryz.ntmps88
    go_wp2
    go_ret
    exact ⟨ret_bool ((HB.out 3).trans HCC.out), (Ext.refl w).alloc _⟩

end Go.Proofs.YtgfknlkpdiejgaaGreatDoor

namespace Go.Proofs.YtgfknlkpdiejgaaGreatDoor
open Go Go.RowKit

/-- To which place a leaf leads; -1: none. -/
def lfK (s : ByteArray) (c e : Int) (t : Bool) (h : Hd) (i : Nat) : Int :=
  if h.kind = 1 then i else if h.kind = 2 then (if i < s.size ∧ h.set (srByte s t i).toNat = true then (i : Int) + 1 else -1)
    else if h.kind = 3 then (if srB s c e t i = true then (i : Int) else -1) else if srE s c e t i = true then (i : Int) else -1
theorem lfK_iff {s : ByteArray} {c e : Int} {t : Bool} {h : Hd} {i : Nat} (hi : i ≤ s.size) (hk : 1 ≤ h.kind ∧ h.kind ≤ 4) (b : Int) : lfR s c e t h i b = true ↔ lfK s c e t h i = b ∧ 0 ≤ b := by
  unfold lfR lfK
  rw [decide_eq_true (by omega : (0 : Int) ≤ i), Bool.true_and]
  by_cases k1 : h.kind = 1
  · rw [if_pos k1, if_neg (by omega), if_neg (by omega), if_neg (by omega)]
    simp only [Bool.and_eq_true, decide_eq_true_eq]
    omega
  rw [if_neg k1]
  by_cases k2 : h.kind = 2
  · rw [if_pos k2, if_neg (by omega), if_neg (by omega), if_pos k2]
    simp only [Bool.and_eq_true, decide_eq_true_eq]
    split
    · rename_i hc
      constructor
      · rintro ⟨h1, ⟨h2, h3⟩, h4⟩; omega
      · rintro ⟨h1, h2⟩; exact ⟨by omega, ⟨by omega, by omega⟩, hc.2⟩
    · rename_i hc
      constructor
      · rintro ⟨h1, ⟨h2, h3⟩, h4⟩; exact absurd ⟨by omega, h4⟩ hc
      · rintro ⟨h1, h2⟩; omega
  simp only [if_neg k2]
  by_cases k3 : h.kind = 3
  · rw [if_pos k3, if_pos k3]
    simp only [Bool.and_eq_true, decide_eq_true_eq]
    split
    · rename_i hc
      constructor
      · rintro ⟨h1, h2, h3⟩; omega
      · rintro ⟨h1, h2⟩; exact ⟨by omega, h1, hc⟩
    · rename_i hc
      constructor
      · rintro ⟨h1, h2, h3⟩; exact absurd h3 hc
      · rintro ⟨h1, h2⟩; omega
  · have k4 : h.kind = 4 := by omega
    rw [if_neg k3, if_pos k4, if_neg k3]
    simp only [Bool.and_eq_true, decide_eq_true_eq]
    split
    · rename_i hc
      constructor
      · rintro ⟨h1, h2, h3⟩; omega
      · rintro ⟨h1, h2⟩; exact ⟨by omega, h1, hc⟩
    · rename_i hc
      constructor
      · rintro ⟨h1, h2, h3⟩; exact absurd h3 hc
      · rintro ⟨h1, h2⟩; omega

set_option maxRecDepth 100000 in
set_option maxHeartbeats 8000000 in
theorem rleaf_any {s : ByteArray} {c e : Int} {t : Bool} (h : Hd) (sv : Value) (i : Nat) (w : World) (hs : s.size ≤ 1000000) (hi : i ≤ s.size) (hk : 1 ≤ h.kind ∧ h.kind ≤ 4) :
    Calls Tryz.prog 79 #[nodeV h sv, srV s c e t, .int .i64 i] w fun r w' => r = .returned (.int .i64 (lfK s c e t h i)) ∧ Ext w w' := by
  have HB := Lib.hid (fun W => rByte_any s c e t i W hs)
  have HG := Lib.hid (fun W => rBegin_any s c e t i W hs)
  have HE := Lib.hid (fun W => rEnd_any s c e t i W hs)
  have HH := Lib.hid (fun (b : Nat) (hb : b < 256) W => rHas_any h.set b W hb)
  have HR : Hid (lfK s c e t h i = if h.kind = 1 then (i : Int) else if h.kind = 2 then (if i < s.size ∧ h.set (srByte s t i).toNat = true then (i : Int) + 1 else -1) else if h.kind = 3 then (if srB s c e t i = true then (i : Int) else -1) else if srE s c e t i = true then (i : Int) else -1) := Lib.hid rfl
  have HBY : Hid ((i < s.size ∧ ∃ b : Nat, b < 256 ∧ srByte s t i = (b : Int)) ∨ (¬ i < s.size ∧ srByte s t i = -1)) := Lib.hid (by
    unfold srByte
    by_cases hi : i < s.size
    · left
      refine ⟨hi, ?_⟩
      rw [if_pos (by omega)]
      split
      · exact ⟨_, UInt8.toNat_lt _, rfl⟩
      · exact ⟨_, UInt8.toNat_lt _, rfl⟩
    · right
      exact ⟨hi, by rw [if_neg (by omega)]⟩)
  have hi7 : i ≤ 1000000 := by omega
  clear hi
  unfold srV at HB HG HE ⊢
  unfold setV u64v at HH
  generalize lfK s c e t h i = res at *
  generalize srByte s t i = by_ at *
  generalize srB s c e t i = bb at *
  generalize srE s c e t i = be at *
  go_enter Tryz.func79, Tryz.ntmps79
  go_upto_region 1 with (refine wpl_boxNd rfl _ rfl h _ rfl ?_; intro z w1 hb hx1 ez sz)
  have hV := Blk.new w1 35 #[.string s, .int .i64 c, .int .i64 e, .bool t]
  have hx2 := hx1.alloc (.cells #[.string s, .int .i64 c, .int .i64 e, .bool t] 35)
  replace hb := hb.ext ((Ext.refl w1).alloc (.cells #[.string s, .int .i64 c, .int .i64 e, .bool t] 35))
  generalize w1.alloc (.cells #[.string s, .int .i64 c, .int .i64 e, .bool t] 35) = w2 at *
  generalize w1.heap.size = u at *
  have HX := Lib.hid hx2
  have k0 : w2.cell? ⟨z, 0, none⟩ = some (.int .i64 h.kind) := hb.cell 0
  have k1 : w2.cell? ⟨z, 1, none⟩ = some (.int .u64 (wd h.set 0 : Int)) := hb.cell 1
  have k2 : w2.cell? ⟨z, 2, none⟩ = some (.int .u64 (wd h.set 1 : Int)) := hb.cell 2
  have k3 : w2.cell? ⟨z, 3, none⟩ = some (.int .u64 (wd h.set 2 : Int)) := hb.cell 3
  have k4 : w2.cell? ⟨z, 4, none⟩ = some (.int .u64 (wd h.set 3 : Int)) := hb.cell 4
  have v0 : w2.cell? ⟨u, 0, none⟩ = some (.string s) := hV.cell 0
  have v1 : w2.cell? ⟨u, 1, none⟩ = some (.int .i64 c) := hV.cell 1
  have v2 : w2.cell? ⟨u, 2, none⟩ = some (.int .i64 e) := hV.cell 2
  have v3 : w2.cell? ⟨u, 3, none⟩ = some (.bool t) := hV.cell 3
  clear hb hV hx1 ez sz hx2
  obtain ⟨kd, hkd⟩ : ∃ kd, kd = h.kind := ⟨_, rfl⟩
  rw [← hkd] at k0 HR hk
  have hkk : kd = 1 ∨ kd = 2 ∨ kd = 3 ∨ kd = 4 := by omega
  clear hkd hk
  generalize wd h.set 0 = w_0 at *
  generalize wd h.set 1 = w_1 at *
  generalize wd h.set 2 = w_2 at *
  generalize wd h.set 3 = w_3 at *
  generalize h.set = st at *
  rcases hkk with rfl | rfl | rfl | rfl
  · have FIN : Hid (res = (i : Int)) := Lib.hid (by rw [HR.out, if_pos rfl])
    clear HR HBY HB HG HE HH
    go_wp2
    go_ret
    exact ⟨by rw [FIN.out]; rfl, HX.out⟩
  · have HR2 : Hid (res = if i < s.size ∧ st by_.toNat = true then (i : Int) + 1 else -1) := Lib.hid (by rw [HR.out, if_neg (by decide), if_pos rfl])
    clear HR HG HE
    rcases HBY.out with ⟨hi, b, hb, rfl⟩ | ⟨hi, rfl⟩
    · have HR3 : Hid (res = if st b = true then (i : Int) + 1 else -1) := Lib.hid (by rw [HR2.out, Int.toNat_natCast]; simp only [hi, true_and])
      have q1 : IntKind.u8.wrap (b : Int) = (b : Int) := by rw [IntKind.wrap_u8]; omega
      have q2 : (0 : Int) ≤ (b : Int) := by omega
      have HH2 := Lib.hid (HH.out b hb)
      clear HR2 HBY HH hb hi
      generalize st b = sb at *
      cases sb
      · have FIN : Hid (res = -1) := Lib.hid (by rw [HR3.out]; rfl)
        clear HR3
        go_wp2_with (first
          | (go_at_call 87; refine (HB.out _).mono ?_; rintro e w3 ⟨rfl, hx3⟩; replace k1 := hx3.cell k1; replace k2 := hx3.cell k2; replace k3 := hx3.cell k3; replace k4 := hx3.cell k4; replace k0 := hx3.cell k0)
          | (go_at_call 88; refine (HH2.out _).mono ?_; rintro e w4 ⟨rfl, hx4⟩; replace k0 := hx4.cell k0))
        go_ret
        exact ⟨by rw [FIN.out]; rfl, (HX.out.trans hx3).trans hx4⟩
      · have FIN : Hid (res = (i : Int) + 1) := Lib.hid (by rw [HR3.out]; rfl)
        have q3 : IntKind.i64.wrap ((i : Int) + 1) = (i : Int) + 1 := by rw [IntKind.wrap_i64]; omega
        clear HR3
        go_wp2_with (first
          | (go_at_call 87; refine (HB.out _).mono ?_; rintro e w3 ⟨rfl, hx3⟩; replace k1 := hx3.cell k1; replace k2 := hx3.cell k2; replace k3 := hx3.cell k3; replace k4 := hx3.cell k4; replace k0 := hx3.cell k0)
          | (go_at_call 88; refine (HH2.out _).mono ?_; rintro e w4 ⟨rfl, hx4⟩; replace k0 := hx4.cell k0))
        go_ret
        exact ⟨by rw [FIN.out]; rfl, (HX.out.trans hx3).trans hx4⟩
    · have FIN : Hid (res = -1) := Lib.hid (by rw [HR2.out, if_neg (fun h => hi h.1)])
      clear HR2 HBY HH hi
      go_wp2_with (go_at_call 87; refine (HB.out _).mono ?_; rintro e w3 ⟨rfl, hx3⟩; replace k0 := hx3.cell k0)
      go_ret
      exact ⟨by rw [FIN.out]; rfl, HX.out.trans hx3⟩
  · have HR2 : Hid (res = if bb = true then (i : Int) else -1) := Lib.hid (by rw [HR.out, if_neg (by decide), if_neg (by decide), if_pos rfl])
    clear HR HBY HB HE HH
    cases bb
    all_goals
      have FIN := Lib.hid (HR2.out)
      simp only [if_true, Bool.false_eq_true, if_false] at FIN
      clear HR2
      go_wp2_with (go_at_call 89; refine (HG.out _).mono ?_; rintro e w3 ⟨rfl, hx3⟩; replace k0 := hx3.cell k0)
      go_ret
      exact ⟨by rw [FIN.out]; rfl, HX.out.trans hx3⟩
  · have HR2 : Hid (res = if be = true then (i : Int) else -1) := Lib.hid (by rw [HR.out, if_neg (by decide), if_neg (by decide), if_neg (by decide)])
    clear HR HBY HB HG HH
    cases be
    all_goals
      have FIN := Lib.hid (HR2.out)
      simp only [if_true, Bool.false_eq_true, if_false] at FIN
      clear HR2
      go_wp2_with (go_at_call 90; refine (HE.out _).mono ?_; rintro e w3 ⟨rfl, hx3⟩; replace k0 := hx3.cell k0)
      go_ret
      exact ⟨by rw [FIN.out]; rfl, HX.out.trans hx3⟩

end Go.Proofs.YtgfknlkpdiejgaaGreatDoor

namespace Go.Proofs.YtgfknlkpdiejgaaGreatDoor
open Go Go.RowKit

theorem RdBl.shape {W : World} {v : Value} {n : Nat} {p : Pl} (h : RdBl W v n p) : ∃ A c, v = .slice A n c ∧ True := by
  obtain ⟨A, c, hv, _⟩ := h
  exact ⟨A, c, hv, trivial⟩
theorem someBl_no {n : Nat} {p : Pl} (hp : PlN n p) : someBl (n + 1) p = false ↔ p = noP := by
  constructor
  · intro h
    funext j
    cases hj : p j with
    | false => rfl
    | true =>
      have : someBl (n + 1) p = true := someBl_iff.2 ⟨j, by have := hp j hj; omega, hj⟩
      rw [h] at this
      cases this
  · rintro rfl
    cases h : someBl (n + 1) noP with
    | false => rfl
    | true => obtain ⟨j, _, h2⟩ := someBl_iff.1 h; cases h2
section
variable {s : ByteArray} {c e : Int} {tn : Bool}
/-- What Over answers. -/
def OverR (s : ByteArray) (w : World) (q : Pl) (r : Ending) (w' : World) : Prop := ∃ v, r = .returned v ∧ RdBl w' v (s.size + 1) q ∧ Ext w w'
def OverOf (s : ByteArray) (c e : Int) (tn : Bool) (t : Nd) : Prop := ∀ (svn v : Value) (p : Pl) (W : World), formB t = true → NdOk W t svn → RdBl W v (s.size + 1) p → PlN s.size p →
  Calls Tryz.prog 60 #[nodeV t.h svn, srV s c e tn, v] W (OverR s W (img (tkN (lfR s c e tn) t) p))
set_option maxRecDepth 100000 in
set_option maxHeartbeats 16000000 in
theorem rrounds_one (h : Hd) (nk : Nd) (hk8 : h.kind = 8) (HO : OverOf s c e tn nk) (hs : s.size ≤ 1000000) (svn v : Value) (p : Pl) (w : World) (hf : formB (.mk h [nk]) = true) (hn : NdOk w (.mk h [nk]) svn) (hr : RdBl w v (s.size + 1) p) (hp : PlN s.size p) :
    Calls Tryz.prog 78 #[nodeV h svn, srV s c e tn, v] w (OverR s w (img (rpR (tkN (lfR s c e tn) nk) h.min h.max) p)) := by
  have hcase := form_cases hf
  have hf0 := form_sub hf nk (by simp)
  have hmxx := form_rep hf hk8
  have HI := Lib.hid (tkN_mon (lfR_ok s c e tn) nk).inn
  have HP := Lib.hid hp
  obtain ⟨SA, sc, rfl, hNs⟩ := hn
  obtain ⟨g0, o0, sv0, rfl, hat, hok⟩ := hNs.get 0 (by simp)
  simp only [List.getElem_cons_zero, Nat.zero_mul, Nat.add_zero, List.length_singleton] at hat hok ⊢
  have hatw : NdAt w g0 o0 nk.h sv0 := fun i hi => hat i hi
  have HATW := Lib.hid hatw
  have HOV := Lib.hid (fun W v q (hW : Ext w W) (h1 : RdBl W v (s.size + 1) q) (h2 : PlN s.size q) => HO sv0 v q W hf0 (NdOk.ext hW _ _ hok) h1 h2)
  have HRD := Lib.hid hr
  obtain ⟨A, ca, rfl, _⟩ := hr.shape
  obtain ⟨mn, hmn⟩ := Int.eq_ofNat_of_zero_le (show 0 ≤ h.min by omega)
  have hmnb : mn ≤ 1000 := by omega
  have hmx : h.max = -1 ∨ (mn : Int) ≤ h.max := by omega
  have hmxb : h.max ≤ 1000 := by omega
  obtain ⟨mx, hmxe⟩ : ∃ mx, mx = h.max := ⟨_, rfl⟩
  have HR : Hid (img (rpR (tkN (lfR s c e tn) nk) h.min h.max) p = img (rpR (tkN (lfR s c e tn) nk) mn mx) p) := Lib.hid (by rw [hmn, hmxe])
  rw [HR.out]
  have HMN := Lib.hid hmn
  have HMX := Lib.hid hmxe
  rw [← hmxe] at hmx hmxb
  have hss := hs
  generalize tkN (lfR s c e tn) nk = R at *
  have hn0 : 0 < s.size + 1 := by omega
  have hn8 : s.size + 1 ≤ 100000000 := by omega
  have HNB := Lib.hid (fun j (h : newP R (img (pw R mn) p) j ≠ noP) => new_bound HI.out (HP.out.img (HI.out.pw mn)) h)
  obtain ⟨n, hnn⟩ : ∃ n, n = s.size + 1 := ⟨_, rfl⟩
  have HN := Lib.hid hnn
  unfold OverR at HOV ⊢
  rw [← hnn] at HOV HRD hn0 hn8 ⊢
  clear hcase hf0 hmxx hNs hat hok hatw hr hp hf hmn hmxe HO hk8 HR hnn
  unfold srV at HOV ⊢
  go_enter Tryz.func78, Tryz.ntmps78
  go_upto_region 1 with (refine wpl_boxNd rfl _ rfl h _ rfl ?_; intro z w1 hb hx1 ez sz)
  have hV := Blk.new w1 35 #[.string s, .int .i64 c, .int .i64 e, .bool tn]
  have hx2 := hx1.alloc (.cells #[.string s, .int .i64 c, .int .i64 e, .bool tn] 35)
  replace hb := hb.ext ((Ext.refl w1).alloc (.cells #[.string s, .int .i64 c, .int .i64 e, .bool tn] 35))
  generalize w1.alloc (.cells #[.string s, .int .i64 c, .int .i64 e, .bool tn] 35) = w2 at *
  generalize w1.heap.size = gu at *
  have HX2 := Lib.hid hx2
  have k5 : w2.cell? ⟨z, 5, none⟩ = some (.slice (some ⟨g0, o0, none⟩) 1 sc) := hb.cell 5
  have k7 : w2.cell? ⟨z, 7, none⟩ = some (.int .i64 h.min) := hb.cell 7
  have k8 : w2.cell? ⟨z, 8, none⟩ = some (.int .i64 h.max) := hb.cell 8
  rw [HMN.out] at k7
  rw [← HMX.out] at k8
  have HV0 := Lib.hid (hV.cell 0)
  have HV1 := Lib.hid (hV.cell 1)
  have HV2 := Lib.hid (hV.cell 2)
  have HV3 := Lib.hid (hV.cell 3)
  have HK5 := Lib.hid k5
  have HK7 := Lib.hid k7
  have HK8 := Lib.hid k8
  clear hb hV hx1 ez sz hx2 HMN HMX
  by_cases hm0 : mx = 0
  · have HFIN : Hid (img (rpR R mn mx) p = p) := Lib.hid (by
      have e : mn = 0 := by omega
      subst e
      rw [rep_up HI.out HP.out 0 mx 0 (.inl ⟨by omega, by omega⟩), up_zero, show pw R 0 = Rl.id from rfl, img_id])
    subst hm0
    go_wp2
    go_ret
    exact ⟨_, rfl, by rw [HFIN.out]; exact HRD.out.ext HX2.out, HX2.out⟩
  have q0 : (mx == 0) = false := by simpa using hm0
  have hx22 := Ext.refl w2
  go_upto_region 5 with fail
  clear k5 k7 k8 q0
  go_loopw [7, 8] (fun fv iv wr => ∃ k : Nat, k ≤ mn ∧ iv = .int .i64 k ∧ RdBl wr fv n (img (pw R k) p) ∧ Ext w2 wr) (fun _ iv _ => mn - (intOf iv).toNat)
  case atStart => exact ⟨0, Nat.zero_le _, rfl, by rw [show pw R 0 = Rl.id from rfl, img_id]; exact HRD.out.ext HX2.out, hx22⟩
  case round =>
    clear hx22
    obtain ⟨k, hk, rfl, hr, hx⟩ := hrel
    obtain ⟨w4, hw4⟩ : ∃ w, w = wr := ⟨_, rfl⟩
    subst hw4
    have HX4 := Lib.hid (HX2.out.trans hx)
    have HX24 := Lib.hid hx
    have HR4 := Lib.hid hr
    obtain ⟨A1, c1, rfl, _⟩ := hr.shape
    have k7 := hx.cell HK7.out
    clear hr hx
    by_cases hlt : k < mn
    · have q9 : (k : Int) < (mn : Int) := by omega
      have HST : Hid (img R (img (pw R k) p) = img (pw R (k + 1)) p) := Lib.hid (img_pw HI.out HP.out k).symm
      generalize hqp : img (pw R k) p = qp at *
      have HPQ : Hid (PlN s.size qp) := Lib.hid (by rw [← hqp]; exact HP.out.img (HI.out.pw k))
      have HLD := Lib.hid (fun W' (hW : Ext w4 W') => HOV.out W' (.slice A1 n c1) qp (HX4.out.trans hW) (HR4.out.ext hW) HPQ.out)
      have HAT := Lib.hid (HATW.out.ext HX4.out)
      have z5 := HX24.out.cell HK5.out
      have y0 := HX24.out.cell HV0.out
      have y1 := HX24.out.cell HV1.out
      have y2 := HX24.out.cell HV2.out
      have y3 := HX24.out.cell HV3.out
      clear hqp
      go_upto_region 7 with fail
      clear k7
      refine wp_region_predz 23 7 [fun v _ => v = .pointer (some ⟨z, 5, none⟩), fun v _ => v = .slice (some ⟨g0, o0, none⟩) 1 sc, fun v _ => v = .pointer (some ⟨g0, o0, none⟩), fun v _ => v = nodeV nk.h sv0, fun v _ => v = .agg #[.string s, .int .i64 c, .int .i64 e, .bool tn], fun v _ => v = .slice A1 n c1, fun v W' => RdBl W' v n (img R qp)] (Lasts.nil.cons fun (v : Value) V V' hx (h : RdBl V v n (img R qp)) => (h.ext hx : RdBl V' v n (img R qp))).is.is.is.is.is.is (by kernel_rfl) (by kernel_rfl) (by kernel_rfl) (by kernel_rfl) (by kernel_rfl) (by kernel_rfl) (by kernel_rfl) ?_
      intro T hT
      have r6 : List.range 7 = [0, 1, 2, 3, 4, 5, 6] := rfl
      simp only [spliceT, r6, List.map_cons, List.map_nil, List.take_succ_cons, List.take_zero, List.drop_succ_cons, List.drop_zero, List.cons_append, List.nil_append, Nat.reduceAdd] at hT
      simp only [List.take_succ_cons, List.take_zero, List.drop_succ_cons, List.drop_zero, AllS, Nat.reduceAdd]
      refine ⟨⟨?_, ?_, ?_, ?_, ?_, ?_, ?_, trivial⟩, ?_⟩
      · intro u W' hx hd'
        clear hd'
        rw [hT u]
        go_wp2
        exact stepQ_mk ⟨Ext.refl _, _, by first | (rw [hT]; simp [updN]) | simp [updN], rfl⟩
      · intro u W' hx hd'
        have t0 := hd' 0 (mem_of (by kernel_rfl))
        clear hd'
        replace t0 : u 0 = _ := t0
        rw [hT u, t0]
        have qf := hx.cell z5
        go_wp2
        exact stepQ_mk ⟨Ext.refl _, _, by first | (rw [hT]; simp [updN, t0]) | simp [updN, t0], rfl⟩
      · intro u W' hx hd'
        have t1 := hd' 1 (mem_of (by kernel_rfl))
        clear hd'
        replace t1 : u 1 = _ := t1
        rw [hT u, t1]
        go_wp2
        exact stepQ_mk ⟨Ext.refl _, _, by first | (rw [hT]; simp [updN, t1]) | simp [updN, t1], rfl⟩
      · intro u W' hx hd'
        have t2 := hd' 2 (mem_of (by kernel_rfl))
        clear hd'
        replace t2 : u 2 = _ := t2
        rw [hT u, t2]
        go_wp2_with (refine wpl_loadNd rfl _ rfl g0 (o0) nk.h sv0 rfl (HAT.out.ext hx) ?_)
        exact stepQ_mk ⟨Ext.refl _, _, by first | (rw [hT]; simp [updN, t2]) | simp [updN, t2], rfl⟩
      · intro u W' hx hd'
        clear hd'
        rw [hT u]
        have q0 := hx.cell y0
        have q1 := hx.cell y1
        have q2 := hx.cell y2
        have q3 := hx.cell y3
        go_wp2
        exact stepQ_mk ⟨Ext.refl _, _, by first | (rw [hT]; simp [updN]) | simp [updN], rfl⟩
      · intro u W' hx hd'
        clear hd'
        rw [hT u]
        go_wp2
        exact stepQ_mk ⟨Ext.refl _, _, by first | (rw [hT]; simp [updN]) | simp [updN], rfl⟩
      · intro u W' hx hd'
        have t3 := hd' 3 (mem_of (by kernel_rfl))
        have t4 := hd' 4 (mem_of (by kernel_rfl))
        have t5 := hd' 5 (mem_of (by kernel_rfl))
        clear hd'
        replace t3 : u 3 = _ := t3
        replace t4 : u 4 = _ := t4
        replace t5 : u 5 = _ := t5
        rw [hT u, t3, t4, t5]
        have HCY := Lib.hid (HLD.out W' (hx))
        go_wp2_with (go_at_call 60; refine HCY.out.mono ?_; rintro e w6 ⟨v6, rfl, hr6, hx6⟩)
        exact stepQ_mk ⟨hx6, _, by first | (rw [hT]; simp [updN, t3, t4, t5]) | simp [updN, t3, t4, t5], hr6⟩
      · intro u W' hx hp
        have tE : RdBl W' (u 6) n (img R qp) := hp 6 (by omega)
        clear hp
        rw [hT u]
        clear hT
        have HTE := Lib.hid tE
        obtain ⟨A9, c9, hv9, _⟩ := tE
        have HXX := Lib.hid hx
        clear hx
        generalize u 6 = v10 at *
        subst hv9
        go_wp2
        go_roundw
        case rel => exact ⟨k + 1, hlt, by go_num, by rw [← HST.out]; exact HTE.out, HX24.out.trans HXX.out⟩
        case measure => simp [intOf]; omega
    · have q9 : ¬ (k : Int) < (mn : Int) := by omega
      obtain rfl : k = mn := by omega
      have HPQ : Hid (PlN s.size (img (pw R k) p)) := Lib.hid (HP.out.img (HI.out.pw k))
      have HFIN : Hid (∀ j : Nat, ((0 ≤ mx ∧ (k : Int) + j = mx) ∨ newP R (img (pw R k) p) j = noP ∧ (mx < 0 ∨ (k : Int) + j ≤ mx)) → upP R (img (pw R k) p) j = img (rpR R k mx) p) := Lib.hid (fun j h => (rep_up HI.out HP.out k mx j h).symm)
      generalize img (pw R k) p = q at *
      have hx44 := Ext.refl w4
      go_upto_region 10 with fail
      clear k7
      go_loopw [7, 9, 10] (fun nv av iv wr => ∃ j : Nat, iv = .int .i64 ((k : Int) + j) ∧ (mx < 0 ∨ (k : Int) + j ≤ mx) ∧ j ≤ s.size + 2 ∧ RdBl wr nv n (newP R q j) ∧ RdBl wr av n (upP R q j) ∧ Ext w4 wr) (fun _ _ iv _ => s.size + 3 + k - (intOf iv).toNat)
      case atStart => exact ⟨0, by simp, by omega, by omega, HR4.out, by rw [up_zero]; exact HR4.out, hx44⟩
      case round =>
        clear hx44
        obtain ⟨j, rfl, hjm, hjs, hnw, hup, hx⟩ := hrel
        obtain ⟨w6, hw6⟩ : ∃ w, w = wr := ⟨_, rfl⟩
        subst hw6
        have HX26 := Lib.hid (HX24.out.trans hx)
        have HX6 := Lib.hid (HX4.out.trans hx)
        have HX46 := Lib.hid hx
        have HNW := Lib.hid hnw
        have HUP := Lib.hid hup
        obtain ⟨A1, c1, rfl, _⟩ := hnw.shape
        obtain ⟨A2, c2, rfl, _⟩ := hup.shape
        have k8 := HX26.out.cell HK8.out
        have HF := Lib.hid (HFIN.out j)
        have HF1 := Lib.hid (HFIN.out (j + 1))
        clear hx hnw hup HFIN
        by_cases hend : 0 ≤ mx ∧ (k : Int) + j = mx
        · have HRR := Lib.hid (HF.out (.inl hend))
          have d1 : decide (mx < 0) = false := decide_eq_false (by omega)
          have d2 : decide ((k : Int) + j < mx) = false := decide_eq_false (by omega)
          clear hend HF HF1
          go_wp2
          go_ret
          exact ⟨_, rfl, by rw [← HRR.out]; exact HUP.out, HX6.out⟩
        have hjm2 : mx < 0 ∨ (k : Int) + j < mx := by omega
        have HPN : Hid (PlN s.size (newP R q j)) := Lib.hid (PlN.new HI.out HPQ.out j)
        have HST : Hid (lessP (img R (newP R q j)) (upP R q j) = newP R q (j + 1)) := Lib.hid (round_new HI.out HPQ.out j)
        have HSU : Hid (orP (upP R q j) (newP R q (j + 1)) = upP R q (j + 1)) := Lib.hid (round_up R q j)
        have HPN1 : Hid (PlN s.size (newP R q (j + 1))) := Lib.hid (PlN.new HI.out HPQ.out (j + 1))
        have HNB1 := Lib.hid (HNB.out (j + 1))
        clear HNB
        generalize newP R q j = qp at *
        generalize upP R q j = qa at *
        obtain ⟨qn, hqn⟩ : ∃ x, x = newP R q (j + 1) := ⟨_, rfl⟩
        obtain ⟨qu, hqu⟩ : ∃ x, x = upP R q (j + 1) := ⟨_, rfl⟩
        rw [← hqn] at HST HSU HPN1 HNB1 HF1
        rw [← hqu] at HSU HF1
        have HQN := Lib.hid hqn
        have HQU := Lib.hid hqu
        clear hqn hqu
        have HLD := Lib.hid (fun W' (hW : Ext w6 W') => HOV.out W' (.slice A1 n c1) qp (HX6.out.trans hW) (HNW.out.ext hW) HPN.out)
        have HAT := Lib.hid (HATW.out.ext HX6.out)
        have HAL := Lib.hid HUP.out
        have z5 := HX26.out.cell HK5.out
        have y0 := HX26.out.cell HV0.out
        have y1 := HX26.out.cell HV1.out
        have y2 := HX26.out.cell HV2.out
        have y3 := HX26.out.cell HV3.out
        have hdd : decide (mx < 0) = true ∨ (decide (mx < 0) = false ∧ decide ((k : Int) + j < mx) = true) := by
          by_cases hneg : mx < 0
          · exact .inl (decide_eq_true hneg)
          · exact .inr ⟨decide_eq_false hneg, decide_eq_true (by omega)⟩
        rcases hdd with d1 | ⟨d1, d2⟩
        all_goals
          go_upto_region 12 with fail
          go_cut [7] (fun v wx => RdBl wx v n (lessP (img R qp) qa) ∧ Ext w6 wx)
          case first =>
            clear k8
            refine wp_region_predz 44 9 [fun v _ => v = .pointer (some ⟨z, 5, none⟩), fun v _ => v = .slice (some ⟨g0, o0, none⟩) 1 sc, fun v _ => v = .pointer (some ⟨g0, o0, none⟩), fun v _ => v = nodeV nk.h sv0, fun v _ => v = .agg #[.string s, .int .i64 c, .int .i64 e, .bool tn], fun v _ => v = .slice A1 n c1, fun v W' => RdBl W' v n (img R qp), fun v _ => v = (.slice A2 n c2), fun v W' => RdBl W' v n ((lessP (img R qp) qa))] ((Lasts.nil.cons fun (v : Value) V V' hx (h : RdBl V v n ((lessP (img R qp) qa))) => (h.ext hx : RdBl V' v n ((lessP (img R qp) qa)))).is.cons fun (v : Value) V V' hx (h : RdBl V v n (img R qp)) => (h.ext hx : RdBl V' v n (img R qp))).is.is.is.is.is.is (by kernel_rfl) (by kernel_rfl) (by kernel_rfl) (by kernel_rfl) (by kernel_rfl) (by kernel_rfl) (by kernel_rfl) ?_
            intro T hT
            have r6 : List.range 9 = [0, 1, 2, 3, 4, 5, 6, 7, 8] := rfl
            simp only [spliceT, r6, List.map_cons, List.map_nil, List.take_succ_cons, List.take_zero, List.drop_succ_cons, List.drop_zero, List.cons_append, List.nil_append, Nat.reduceAdd] at hT
            simp only [List.take_succ_cons, List.take_zero, List.drop_succ_cons, List.drop_zero, AllS, Nat.reduceAdd]
            refine ⟨⟨?_, ?_, ?_, ?_, ?_, ?_, ?_, ?_, ?_, trivial⟩, ?_⟩
            · intro u W' hx hd'
              clear hd'
              rw [hT u]
              go_wp2
              exact stepQ_mk ⟨Ext.refl _, _, by first | (rw [hT]; simp [updN]) | simp [updN], rfl⟩
            · intro u W' hx hd'
              have t0 := hd' 0 (mem_of (by kernel_rfl))
              clear hd'
              replace t0 : u 0 = _ := t0
              rw [hT u, t0]
              have qf := hx.cell z5
              go_wp2
              exact stepQ_mk ⟨Ext.refl _, _, by first | (rw [hT]; simp [updN, t0]) | simp [updN, t0], rfl⟩
            · intro u W' hx hd'
              have t1 := hd' 1 (mem_of (by kernel_rfl))
              clear hd'
              replace t1 : u 1 = _ := t1
              rw [hT u, t1]
              go_wp2
              exact stepQ_mk ⟨Ext.refl _, _, by first | (rw [hT]; simp [updN, t1]) | simp [updN, t1], rfl⟩
            · intro u W' hx hd'
              have t2 := hd' 2 (mem_of (by kernel_rfl))
              clear hd'
              replace t2 : u 2 = _ := t2
              rw [hT u, t2]
              go_wp2_with (refine wpl_loadNd rfl _ rfl g0 (o0) nk.h sv0 rfl (HAT.out.ext hx) ?_)
              exact stepQ_mk ⟨Ext.refl _, _, by first | (rw [hT]; simp [updN, t2]) | simp [updN, t2], rfl⟩
            · intro u W' hx hd'
              clear hd'
              rw [hT u]
              have q0 := hx.cell y0
              have q1 := hx.cell y1
              have q2 := hx.cell y2
              have q3 := hx.cell y3
              go_wp2
              exact stepQ_mk ⟨Ext.refl _, _, by first | (rw [hT]; simp [updN]) | simp [updN], rfl⟩
            · intro u W' hx hd'
              clear hd'
              rw [hT u]
              go_wp2
              exact stepQ_mk ⟨Ext.refl _, _, by first | (rw [hT]; simp [updN]) | simp [updN], rfl⟩
            · intro u W' hx hd'
              have t3 := hd' 3 (mem_of (by kernel_rfl))
              have t4 := hd' 4 (mem_of (by kernel_rfl))
              have t5 := hd' 5 (mem_of (by kernel_rfl))
              clear hd'
              replace t3 : u 3 = _ := t3
              replace t4 : u 4 = _ := t4
              replace t5 : u 5 = _ := t5
              rw [hT u, t3, t4, t5]
              have HCY := Lib.hid (HLD.out W' (hx))
              go_wp2_with (go_at_call 60; refine HCY.out.mono ?_; rintro e w6 ⟨v6, rfl, hr6, hx6⟩)
              exact stepQ_mk ⟨hx6, _, by first | (rw [hT]; simp [updN, t3, t4, t5]) | simp [updN, t3, t4, t5], hr6⟩
            · intro u W' hx hd'
              clear hd'
              rw [hT u]
              go_wp2
              exact stepQ_mk ⟨Ext.refl _, _, by first | (rw [hT]; simp [updN]) | simp [updN], rfl⟩
            · intro u W' hx hd'
              have t6 := hd' 6 (mem_of (by kernel_rfl))
              have t7 := hd' 7 (mem_of (by kernel_rfl))
              clear hd'
              replace t7 : u 7 = _ := t7
              replace t6 : RdBl W' (u 6) n (img R qp) := t6
              rw [hT u, t7]
              have HCY := Lib.hid (rwithout_any (u 6) (.slice A2 n c2) n _ _ W' t6 (HAL.out.ext hx) hn8 hn0)
              obtain ⟨A9, c9, hv9, _⟩ := t6
              generalize hu9 : u 6 = v9 at *
              have HU9 := Lib.hid hu9
              subst hv9
              go_wp2_with (go_at_call 86; refine HCY.out.mono ?_; rintro e w6 ⟨v6, rfl, ho6, hx6⟩)
              exact stepQ_mk ⟨hx6, _, by first | (rw [hT]; simp [updN, t7, HU9.out]) | simp [updN, t7, HU9.out], RdBl.of_own ho6⟩
            · intro u W' hx hp
              have tE : RdBl W' (u 8) n ((lessP (img R qp) qa)) := hp 8 (by omega)
              clear hp
              rw [hT u]
              clear hT
              have HTE := Lib.hid tE
              obtain ⟨A9, c9, hv9, _⟩ := tE
              have HXX := Lib.hid hx
              clear hx
              generalize u 8 = v10 at *
              subst hv9
              go_wp2
              go_meet
              case rel => exact ⟨HTE.out, HXX.out⟩
          obtain ⟨hr7, hx7⟩ := hcut
          obtain ⟨w7, hw7⟩ : ∃ w, w = wc := ⟨_, rfl⟩
          subst hw7
          rw [HST.out] at hr7
          have HR7 := Lib.hid hr7
          have HX7 := Lib.hid hx7
          have HS7 := Lib.hid (rsome_any _ n qn w7 hr7 hn8)
          obtain ⟨A3, c3, rfl, _⟩ := hr7.shape
          clear hr7 hx7 z5 y0 y1 y2 y3 k8
          by_cases hz : someBl n qn = true
          · rw [hz] at HS7
            have hne : qn ≠ noP := fun e => by
              rw [HN.out] at hz
              have := (someBl_no HPN1.out).2 e
              rw [hz] at this
              cases this
            have hjb := HNB1.out hne
            have HAL7 := Lib.hid (HAL.out.ext HX7.out)
            have HBO := Lib.hid (rboth_any _ _ n qa qn w7 HAL7.out HR7.out hn8 hn0)
            rw [HSU.out] at HBO
            clear hz hne
            go_wp2_with (first
              | (go_at_call 76; refine HS7.out.mono ?_; rintro e w8 ⟨rfl, rfl⟩)
              | (go_at_call 77; refine HBO.out.mono ?_; rintro e w9 ⟨v9, rfl, ho9, hx9⟩; obtain ⟨A9, c9, hv9, _⟩ := (RdBl.of_own ho9).shape; subst hv9))
            go_roundw
            case rel => exact ⟨j + 1, by go_num, by omega, by omega, (by rw [← HQN.out]; exact HR7.out.ext hx9), (by rw [← HQU.out]; exact RdBl.of_own ho9), (HX46.out.trans HX7.out).trans hx9⟩
            case measure => simp [intOf]; omega
          · have hz' : someBl n qn = false := by simpa using hz
            rw [hz'] at HS7
            have hno : qn = noP := (someBl_no HPN1.out).1 (by rw [← HN.out]; exact hz')
            have HRR : Hid (qa = img (rpR R k mx) p) := Lib.hid (by
              have h1 := HF1.out (.inr ⟨hno, by omega⟩)
              rw [← h1, ← HSU.out, hno]
              funext i
              unfold orP noP
              rw [Bool.or_false])
            clear hz hz' hno
            go_wp2_with (go_at_call 76; refine HS7.out.mono ?_; rintro e w8 ⟨rfl, rfl⟩)
            go_ret
            exact ⟨_, rfl, by rw [← HRR.out]; exact HAL.out.ext HX7.out, HX6.out.trans HX7.out⟩
end

end Go.Proofs.YtgfknlkpdiejgaaGreatDoor
