/- The depth of a tree, in plain words. No program. The expansion of a tree, in plain words. No program. trawlref04.count and size as contracts. Condition: the tree lies in memory, its lists are short, it is in form. Trees alike, in plain words. No program. -/
import Derived.Test.YtgfknlkpdiejgaaGreatDoorZRankedSpansAB
import Derived.Test.YtgfknlkpdiejgaaGreatDoorZRankedSpansAD
import Derived.Test.YtgfknlkpdiejgaaGreatDoorZRankedSpansAC
namespace Go.Proofs.YtgfknlkpdiejgaaGreatDoor

/-- Does a repeat count once more? -/
def deepB (h : Hd) (len : Nat) : Bool := decide (h.kind = 8) && decide (0 < len) && (decide (h.min ≠ 0) || (decide (h.max ≠ 1) && decide (h.max ≠ -1)))
mutual
def depthN : Nd → Int
  | .mk h subs => depthA 0 subs + (if deepB h subs.length = true then 1 else 0) + 1
def depthA : Int → List Nd → Int
  | a, [] => a
  | a, n :: r => depthA (Max.max a (depthN n)) r
end
theorem depthA_app : ∀ (a : Int) (l r : List Nd), depthA a (l ++ r) = depthA (depthA a l) r
  | _, [], _ => rfl
  | a, n :: l, r => by
    show depthA a (n :: (l ++ r)) = depthA (depthA a (n :: l)) r
    rw [depthA, depthA, depthA_app _ l r]
mutual
/-- A tree of few nodes is not deep. -/
theorem depthN_few : ∀ (n : Nd) (m : Int), 0 ≤ leftN n m → 1 ≤ depthN n ∧ depthN n ≤ 2 * (m - leftN n m)
  | .mk h subs, m, hl => by
    unfold leftN at hl ⊢
    have := depthA_few subs (m - 1) 0 hl (by omega)
    have h2 := leftL_len subs (m - 1) hl
    unfold depthN
    split <;> omega
theorem depthA_few : ∀ (l : List Nd) (m a : Int), 0 ≤ leftL l m → 0 ≤ a → a ≤ depthA a l ∧ depthA a l ≤ Max.max a (2 * (m - leftL l m))
  | [], m, a, hl, h0 => by unfold leftL depthA; omega
  | n :: r, m, a, hl, h0 => by
    by_cases hm : 0 ≤ m
    · rw [leftL, if_pos hm] at hl ⊢
      have h2 : 0 ≤ leftN n m := by
        rcases Int.lt_or_le (leftN n m) 0 with h3 | h3
        · rw [leftL_neg _ _ h3] at hl; omega
        · exact h3
      have h3 := depthN_few n m h2
      have h4 := leftL_range r (leftN n m) (by omega)
      have h5 := depthA_few r (leftN n m) (Max.max a (depthN n)) hl (by omega)
      rw [depthA]
      omega
    · rw [leftL_neg _ _ (by omega)] at hl
      omega
end

end Go.Proofs.YtgfknlkpdiejgaaGreatDoor

namespace Go.Proofs.YtgfknlkpdiejgaaGreatDoor

def noS : Nat → Bool := fun _ => false
def hdV (k : Int) : Hd := ⟨k, noS, 0, 0, 0, false⟩
def optN (mx : Int) (bare : Bool) (x : Nd) : Nd := .mk ⟨8, noS, 0, 0, mx, bare⟩ [x]
def seqN : List Nd → Nd
  | [] => .mk (hdV 1) []
  | [x] => x
  | a :: b :: l => .mk (hdV 5) (a :: b :: l)
def optsL (x : Nd) : Bool → Nat → List Nd
  | _, 0 => []
  | b, m + 1 => optN 1 b x :: optsL x true m
def repL (h : Hd) (x : Nd) : List Nd := List.replicate h.min.toNat x ++ optsL x (h.bare || decide (0 < h.min)) (h.max - h.min).toNat ++ (if h.max = -1 then [optN (-1) true x] else [])
def repN (h : Hd) (x : Nd) : Nd := if h.max = 0 then .mk (hdV 1) [] else if h.min = 0 ∧ (h.max = 1 ∨ h.max = -1) then .mk h [x] else seqN (repL h x)
def headN : List Nd → Nd
  | [] => .mk (hdV 0) []
  | x :: _ => x
mutual
def expN : Nd → Nd
  | .mk h subs => if h.kind = 8 then repN h (headN (expL subs)) else .mk h (expL subs)
def expL : List Nd → List Nd
  | [] => []
  | n :: r => expN n :: expL r
end
theorem expL_map : ∀ l, expL l = l.map expN
  | [] => by rw [expL]; rfl
  | n :: r => by rw [expL, expL_map r]; rfl
theorem optsL_len (x : Nd) : ∀ (b : Bool) (m : Nat), (optsL x b m).length = m
  | _, 0 => rfl
  | b, m + 1 => by rw [optsL, List.length_cons, optsL_len x true m]
theorem optsL_snoc (x : Nd) : ∀ (b : Bool) (m : Nat), optsL x b (m + 1) = optsL x b m ++ [optN 1 (if m = 0 then b else true) x]
  | b, 0 => rfl
  | b, m + 1 => by
    have e : (if m = 0 then true else true) = true := by split <;> rfl
    rw [optsL, optsL_snoc x true m, optsL, e]
    rfl
theorem mem_optsL {x y : Nd} : ∀ {b : Bool} {m : Nat}, y ∈ optsL x b m → ∃ c, y = optN 1 c x
  | _, 0, h => by cases h
  | b, m + 1, h => by
    rw [optsL] at h
    rcases List.mem_cons.1 h with rfl | h
    · exact ⟨b, rfl⟩
    · exact mem_optsL h
theorem mem_repL {h : Hd} {x y : Nd} (hy : y ∈ repL h x) : y = x ∨ (∃ c, y = optN 1 c x) ∨ (h.max = -1 ∧ y = optN (-1) true x) := by
  unfold repL at hy
  rcases List.mem_append.1 hy with hy | hy
  · rcases List.mem_append.1 hy with hy | hy
    · exact .inl (List.eq_of_mem_replicate hy)
    · exact .inr (.inl (mem_optsL hy))
  · split at hy
    · rename_i hm
      simp only [List.mem_singleton] at hy
      exact .inr (.inr ⟨hm, hy⟩)
    · cases hy
theorem repL_len (h : Hd) (x : Nd) : (repL h x).length = h.min.toNat + (h.max - h.min).toNat + (if h.max = -1 then 1 else 0) := by
  unfold repL
  rw [List.length_append, List.length_append, List.length_replicate, optsL_len]
  split <;> rfl

theorem smallL_of : ∀ {l : List Nd}, (∀ n ∈ l, smallN n) → smallL l
  | [], _ => trivial
  | a :: r, h => ⟨h a (by simp), smallL_of fun n hn => h n (by simp [hn])⟩
theorem small_opt {mx : Int} {b : Bool} {x : Nd} (h : smallN x) : smallN (optN mx b x) := ⟨by simp, h, trivial⟩
theorem small_seq {l : List Nd} (hl : l.length ≤ 1000000) (h : ∀ n ∈ l, smallN n) : smallN (seqN l) := by
  match l, hl, h with
  | [], _, _ => exact ⟨by simp, trivial⟩
  | [x], _, h => exact h x (by simp)
  | a :: b :: r, hl, h => exact ⟨hl, smallL_of h⟩
theorem small_rep {h : Hd} {x : Nd} (hx : smallN x) (h1 : h.min ≤ 255) (h2 : h.max = -1 ∨ (h.min ≤ h.max ∧ h.max ≤ 255)) (h0 : 0 ≤ h.min) : smallN (repN h x) := by
  unfold repN
  split
  · exact ⟨by simp, trivial⟩
  · split
    · exact ⟨by simp, hx, trivial⟩
    · refine small_seq (by rw [repL_len]; split <;> omega) fun y hy => ?_
      rcases mem_repL hy with rfl | ⟨c, rfl⟩ | ⟨_, rfl⟩
      · exact hx
      · exact small_opt hx
      · exact small_opt hx
theorem formed_one {h : Hd} {l : List Nd} (hf : formedB h l.length = true) (hk : h.kind = 8) : ∃ x, l = [x] := by
  unfold formedB at hf
  rw [if_neg (by omega), if_neg (by omega), if_neg (by omega), if_neg (by omega), if_pos hk] at hf
  simp only [Bool.and_eq_true, Bool.or_eq_true, decide_eq_true_eq] at hf
  have hl := hf.1.1.1.2
  match l, hl with
  | [x], _ => exact ⟨x, rfl⟩
mutual
theorem small_exp : ∀ (n : Nd), smallN n → formB n = true → smallN (expN n)
  | .mk h subs, hs, hf => by
    rw [formB, Bool.and_eq_true] at hf
    have hl := small_expL subs hs.2 hf.2
    unfold expN
    split
    · rename_i hk
      obtain ⟨r1, r2, r3⟩ := formed_rep hf.1 hk
      obtain ⟨x, rfl⟩ := formed_one hf.1 hk
      refine small_rep ?_ r2 r3 r1
      rw [expL] at hl ⊢
      exact hl.1
    · refine ⟨?_, hl⟩
      rw [expL_map, List.length_map]
      exact hs.1
theorem small_expL : ∀ (l : List Nd), smallL l → formL l = true → smallL (expL l)
  | [], _, _ => by rw [expL]; trivial
  | n :: r, hs, hf => by
    rw [formL, Bool.and_eq_true] at hf
    rw [expL]
    exact ⟨small_exp n hs.1 hf.1, small_expL r hs.2 hf.2⟩
end

/-! ### how many nodes -/
mutual
def nodesN : Nd → Int
  | .mk _ subs => 1 + nodesL subs
def nodesL : List Nd → Int
  | [] => 0
  | n :: r => nodesN n + nodesL r
end
mutual
theorem nodesN_pos : ∀ n, 1 ≤ nodesN n
  | .mk _ subs => by have := nodesL_pos subs; rw [nodesN]; omega
theorem nodesL_pos : ∀ l, 0 ≤ nodesL l
  | [] => by rw [nodesL]; omega
  | n :: r => by have := nodesN_pos n; have := nodesL_pos r; rw [nodesL]; omega
end
theorem nodesL_app : ∀ a b, nodesL (a ++ b) = nodesL a + nodesL b
  | [], b => by rw [nodesL]; simp
  | n :: a, b => by
    show nodesL (n :: (a ++ b)) = _
    rw [nodesL, nodesL, nodesL_app a b]
    omega
theorem nodesL_len : ∀ l, (l.length : Int) ≤ nodesL l
  | [] => by rw [nodesL]; simp
  | n :: r => by have := nodesN_pos n; have := nodesL_len r; rw [nodesL]; simp; omega
theorem nodesL_rep (x : Nd) : ∀ m : Nat, nodesL (List.replicate m x) = m * nodesN x
  | 0 => by rw [List.replicate_zero, nodesL]; simp
  | m + 1 => by
    rw [List.replicate_succ, nodesL, nodesL_rep x m]
    push_cast
    rw [Int.add_mul]
    omega
theorem nodesL_opts (x : Nd) : ∀ (b : Bool) (m : Nat), nodesL (optsL x b m) = m * (1 + nodesN x)
  | _, 0 => by rw [optsL, nodesL]; simp
  | b, m + 1 => by
    rw [optsL, nodesL, nodesL_opts x true m, optN, nodesN, nodesL, nodesL]
    push_cast
    rw [Int.add_mul]
    omega
theorem nodes_seq {l : List Nd} (h : l.length ≠ 1) : nodesN (seqN l) = 1 + nodesL l := by
  match l, h with
  | [], _ => rw [seqN, nodesN]
  | [x], h => exact absurd rfl h
  | a :: b :: r, _ => rw [seqN, nodesN]
theorem nodes_rep {h : Hd} {x : Nd} (h0 : 0 ≤ h.min) (h2 : h.max = -1 ∨ h.min ≤ h.max) : nodesN (repN h x) = if h.max = 0 then 1 else roundsZ h (nodesN x) := by
  unfold repN roundsZ
  by_cases a0 : h.max = 0
  · rw [if_pos a0, if_pos a0, nodesN, nodesL]; omega
  rw [if_neg a0, if_neg a0]
  by_cases a1 : h.min = 1 ∧ h.max = 1
  · rw [if_neg (by omega), if_pos a1]
    have e : repL h x = [x] := by
      unfold repL
      rw [a1.1, a1.2]
      rfl
    rw [e, seqN]
  rw [if_neg a1]
  by_cases a2 : h.min = 0 ∧ (h.max = 1 ∨ h.max = -1)
  · rw [if_pos a2, if_pos a2, nodesN, nodesL, nodesL]
    omega
  rw [if_neg a2, if_neg a2, nodes_seq (by rw [repL_len]; split <;> omega)]
  unfold repL
  rw [nodesL_app, nodesL_app, nodesL_rep, nodesL_opts]
  have em : ((h.min.toNat : Nat) : Int) = h.min := Int.toNat_of_nonneg h0
  rw [em]
  by_cases a3 : h.max = -1
  · rw [if_pos a3, if_pos a3]
    have e : (h.max - h.min).toNat = 0 := by omega
    rw [e, nodesL, nodesL, optN, nodesN, nodesL, nodesL]
    simp
    omega
  · rw [if_neg a3, if_neg a3, nodesL]
    have e : (((h.max - h.min).toNat : Nat) : Int) = h.max - h.min := Int.toNat_of_nonneg (by omega)
    rw [e]
    omega
theorem rounds_mono {h : Hd} {a b : Int} (h0 : 0 ≤ h.min) (h2 : h.max = -1 ∨ h.min ≤ h.max) (hab : a ≤ b) : roundsZ h a ≤ roundsZ h b := by
  have m1 : h.min * a ≤ h.min * b := Int.mul_le_mul_of_nonneg_left hab h0
  unfold roundsZ
  split
  · exact hab
  · split
    · omega
    · split
      · omega
      · have m3 : (h.max - h.min) * (1 + a) ≤ (h.max - h.min) * (1 + b) := Int.mul_le_mul_of_nonneg_left (by omega) (by omega)
        omega
theorem rounds_ge {h : Hd} {a : Int} (h0 : 0 ≤ h.min) (h2 : h.max = -1 ∨ h.min ≤ h.max) (hm : h.max ≠ 0) (ha : 0 ≤ a) : a ≤ roundsZ h a := by
  unfold roundsZ
  split
  · omega
  · split
    · omega
    · split
      · have m1 : 0 ≤ h.min * a := Int.mul_nonneg h0 ha
        omega
      · by_cases hz : h.min = 0
        · have m3 : 1 * (1 + a) ≤ (h.max - h.min) * (1 + a) := Int.mul_le_mul_of_nonneg_right (by omega) (by omega)
          rw [hz] at m3 ⊢
          omega
        · have m1 : 1 * a ≤ h.min * a := Int.mul_le_mul_of_nonneg_right (by omega) ha
          have m3 : 0 ≤ (h.max - h.min) * (1 + a) := Int.mul_nonneg (by omega) (by omega)
          omega
mutual
theorem size_nodes : ∀ (n : Nd), formB n = true → sizeN n = Min.min (nodesN (expN n)) 2001
  | .mk h subs, hf => by
    rw [formB, Bool.and_eq_true] at hf
    have hl := size_nodesL subs 0 hf.2 (by omega)
    rw [show Min.min (0 : Int) 2001 = 0 by decide] at hl
    have hp := nodesL_pos (expL subs)
    unfold sizeN expN
    by_cases hk : h.kind = 8
    · obtain ⟨r1, r2, r3⟩ := formed_rep hf.1 hk
      obtain ⟨x, rfl⟩ := formed_one hf.1 hk
      have r4 : h.max = -1 ∨ h.min ≤ h.max := r3.imp id (·.1)
      rw [if_pos hk, if_pos hk, nodes_rep r1 r4]
      rw [expL, expL, nodesL, nodesL] at hl
      rw [expL, headN]
      have hpx := nodesN_pos (expN x)
      by_cases hm : h.max = 0
      · rw [if_pos ⟨hk, hm⟩, if_pos hm]; omega
      · rw [if_neg (by omega), if_neg hm, hl]
        rcases Int.le_total (nodesN (expN x)) 2001 with hc | hc
        · have e : Min.min (0 + (nodesN (expN x) + 0)) 2001 = nodesN (expN x) := by omega
          rw [e]
        · have e : Min.min (0 + (nodesN (expN x) + 0)) 2001 = 2001 := by omega
          rw [e]
          have h1 := rounds_ge r1 r4 hm (a := 2001) (by omega)
          have h2 := rounds_mono r1 r4 hc
          omega
    · rw [if_neg (by omega), if_neg hk, if_neg hk, nodesN, hl]
      omega
theorem size_nodesL : ∀ (l : List Nd) (a : Int), formL l = true → 0 ≤ a → sizeA (Min.min a 2001) l = Min.min (a + nodesL (expL l)) 2001
  | [], a, _, _ => by rw [sizeA, expL, nodesL]; omega
  | n :: r, a, hf, ha => by
    rw [formL, Bool.and_eq_true] at hf
    have h1 := size_nodes n hf.1
    have hp := nodesN_pos (expN n)
    have h2 := size_nodesL r (a + nodesN (expN n)) hf.2 (by omega)
    rw [sizeA, expL, nodesL, h1]
    have e : Min.min (Min.min a 2001 + Min.min (nodesN (expN n)) 2001) 2001 = Min.min (a + nodesN (expN n)) 2001 := by omega
    rw [e, h2]
    omega
end


/-! ### the expansion is right, plain, no deeper; a plain tree is its own -/
def onceB (h : Hd) : Bool := !(decide (h.kind = 8) && (decide (h.min ≠ 0) || (decide (h.max ≠ 1) && decide (h.max ≠ -1))))
mutual
def plainN : Nd → Bool
  | .mk h subs => onceB h && plainL subs
def plainL : List Nd → Bool
  | [] => true
  | n :: r => plainN n && plainL r
end
theorem formL_of : ∀ {l : List Nd}, (∀ n ∈ l, formB n = true) → formL l = true
  | [], _ => by rw [formL]
  | a :: r, h => by rw [formL, h a (by simp), formL_of fun n hn => h n (by simp [hn])]; rfl
theorem plainL_of : ∀ {l : List Nd}, (∀ n ∈ l, plainN n = true) → plainL l = true
  | [], _ => by rw [plainL]
  | a :: r, h => by rw [plainL, h a (by simp), plainL_of fun n hn => h n (by simp [hn])]; rfl
theorem zeroS_no : zeroS noS = true := by
  unfold zeroS noS
  rw [wd_none, wd_none, wd_none, wd_none]
  rfl
theorem formB_opt {mx : Int} {b : Bool} {x : Nd} (hm : mx = 1 ∨ mx = -1) (h : formB x = true) : formB (optN mx b x) = true := by
  rw [optN, formB, formL, formL, h]
  rcases hm with rfl | rfl <;> simp [formedB, zeroS_no]
theorem formB_empty : formB (.mk (hdV 1) []) = true := by
  rw [formB, formL]
  simp [formedB, plainB, hdV, zeroS_no]
theorem formB_seq {l : List Nd} (h : ∀ n ∈ l, formB n = true) : formB (seqN l) = true := by
  match l, h with
  | [], _ => exact formB_empty
  | [x], h => exact h x (by simp)
  | a :: b :: r, h =>
    rw [seqN, formB, formL_of h]
    simp [formedB, plainB, hdV, zeroS_no]
theorem formB_rep {h : Hd} {x : Nd} (hf : formedB h 1 = true) (hx : formB x = true) : formB (repN h x) = true := by
  unfold repN
  split
  · exact formB_empty
  · split
    · rw [formB, formL, formL, hx]
      simpa using hf
    · refine formB_seq fun y hy => ?_
      rcases mem_repL hy with rfl | ⟨c, rfl⟩ | ⟨_, rfl⟩
      · exact hx
      · exact formB_opt (.inl rfl) hx
      · exact formB_opt (.inr rfl) hx
mutual
theorem form_exp : ∀ (n : Nd), formB n = true → formB (expN n) = true
  | .mk h subs, hf => by
    rw [formB, Bool.and_eq_true] at hf
    have hl := form_expL subs hf.2
    unfold expN
    split
    · rename_i hk
      obtain ⟨x, rfl⟩ := formed_one hf.1 hk
      rw [expL, formL, Bool.and_eq_true] at hl
      rw [expL]
      exact formB_rep hf.1 hl.1
    · rw [formB, expL_map, List.length_map, hf.1, ← expL_map, hl]
      rfl
theorem form_expL : ∀ (l : List Nd), formL l = true → formL (expL l) = true
  | [], _ => by rw [expL, formL]
  | n :: r, hf => by
    rw [formL, Bool.and_eq_true] at hf
    rw [expL, formL, form_exp n hf.1, form_expL r hf.2]
    rfl
end
theorem plain_opt {mx : Int} {b : Bool} {x : Nd} (hm : mx = 1 ∨ mx = -1) (h : plainN x = true) : plainN (optN mx b x) = true := by
  rw [optN, plainN, plainL, plainL, h]
  rcases hm with rfl | rfl <;> simp [onceB]
theorem plain_seq {l : List Nd} (h : ∀ n ∈ l, plainN n = true) : plainN (seqN l) = true := by
  match l, h with
  | [], _ => rw [seqN, plainN, plainL]; simp [onceB, hdV]
  | [x], h => exact h x (by simp)
  | a :: b :: r, h =>
    rw [seqN, plainN, plainL_of h]
    simp [onceB, hdV]
theorem plain_rep {h : Hd} {x : Nd} (hx : plainN x = true) : plainN (repN h x) = true := by
  unfold repN
  split
  · rw [plainN, plainL]; simp [onceB, hdV]
  · split
    · rename_i hm
      rw [plainN, plainL, plainL, hx]
      rcases hm.2 with h1 | h1 <;> simp [onceB, hm.1, h1]
    · refine plain_seq fun y hy => ?_
      rcases mem_repL hy with rfl | ⟨c, rfl⟩ | ⟨_, rfl⟩
      · exact hx
      · exact plain_opt (.inl rfl) hx
      · exact plain_opt (.inr rfl) hx
mutual
theorem plain_exp : ∀ (n : Nd), formB n = true → plainN (expN n) = true
  | .mk h subs, hf => by
    rw [formB, Bool.and_eq_true] at hf
    have hl := plain_expL subs hf.2
    unfold expN
    split
    · rename_i hk
      obtain ⟨x, rfl⟩ := formed_one hf.1 hk
      rw [expL, plainL, Bool.and_eq_true] at hl
      rw [expL]
      exact plain_rep hl.1
    · rename_i hk
      rw [plainN, hl]
      simp [onceB, hk]
theorem plain_expL : ∀ (l : List Nd), formL l = true → plainL (expL l) = true
  | [], _ => by rw [expL, plainL]
  | n :: r, hf => by
    rw [formL, Bool.and_eq_true] at hf
    rw [expL, plainL, plain_exp n hf.1, plain_expL r hf.2]
    rfl
end
mutual
theorem exp_plain : ∀ (n : Nd), formB n = true → plainN n = true → expN n = n
  | .mk h subs, hf, hp => by
    rw [formB, Bool.and_eq_true] at hf
    rw [plainN, Bool.and_eq_true] at hp
    have hl := exp_plainL subs hf.2 hp.2
    unfold expN
    rw [hl]
    split
    · rename_i hk
      obtain ⟨x, rfl⟩ := formed_one hf.1 hk
      have h1 : h.min = 0 ∧ (h.max = 1 ∨ h.max = -1) := by
        have h2 := hp.1
        simp [onceB, hk] at h2
        omega
      unfold repN
      rw [if_neg (by omega), if_pos (by omega)]
      rfl
    · rfl
theorem exp_plainL : ∀ (l : List Nd), formL l = true → plainL l = true → expL l = l
  | [], _, _ => by rw [expL]
  | n :: r, hf, hp => by
    rw [formL, Bool.and_eq_true] at hf
    rw [plainL, Bool.and_eq_true] at hp
    rw [expL, exp_plain n hf.1 hp.1, exp_plainL r hf.2 hp.2]
end
theorem depthA_le {d : Int} : ∀ {l : List Nd} {a : Int}, (∀ n ∈ l, depthN n ≤ d) → a ≤ d → depthA a l ≤ d
  | [], a, _, ha => by rw [depthA]; exact ha
  | n :: r, a, h, ha => by
    have := h n (by simp)
    rw [depthA]
    exact depthA_le (fun m hm => h m (by simp [hm])) (by omega)
theorem depthA_ge : ∀ (l : List Nd) (a : Int), a ≤ depthA a l
  | [], a => by rw [depthA]; omega
  | n :: r, a => by
    have := depthA_ge r (Max.max a (depthN n))
    rw [depthA]
    omega
theorem depth_opt {mx : Int} {b : Bool} {x : Nd} (hm : mx = 1 ∨ mx = -1) : depthN (optN mx b x) = Max.max 0 (depthN x) + 1 := by
  rw [optN, depthN, depthA, depthA]
  rcases hm with rfl | rfl <;> simp [deepB]
theorem depth_seq {l : List Nd} {d : Int} (hd : 0 ≤ d) (h : ∀ n ∈ l, depthN n ≤ d) : depthN (seqN l) ≤ d + 1 := by
  match l, h with
  | [], _ => rw [seqN, depthN, depthA]; simp [deepB]; omega
  | [x], h => have := h x (by simp); rw [seqN]; omega
  | a :: b :: r, h =>
    have := depthA_le h hd
    rw [seqN, depthN]
    have e : (if deepB (hdV 5) (a :: b :: r).length = true then (1 : Int) else 0) = 0 := by simp [deepB, hdV]
    rw [e]
    omega
mutual
theorem depth_exp : ∀ (n : Nd), formB n = true → depthN (expN n) ≤ depthN n
  | .mk h subs, hf => by
    rw [formB, Bool.and_eq_true] at hf
    have hl := depth_expL subs 0 0 hf.2 (by omega)
    unfold expN
    split
    · rename_i hk
      obtain ⟨x, rfl⟩ := formed_one hf.1 hk
      rw [expL, headN]
      rw [expL, expL, depthA, depthA, depthA, depthA] at hl
      rw [depthN, depthA, depthA]
      unfold repN
      by_cases a0 : h.max = 0
      · rw [if_pos a0, depthN, depthA]
        have e : (if deepB (hdV 1) ([] : List Nd).length = true then (1 : Int) else 0) = 0 := by simp [deepB]
        rw [e]
        split <;> omega
      rw [if_neg a0]
      by_cases a2 : h.min = 0 ∧ (h.max = 1 ∨ h.max = -1)
      · rw [if_pos a2, depthN, depthA, depthA]
        exact Int.add_le_add_right (Int.add_le_add_right hl _) 1
      rw [if_neg a2]
      have hd : deepB h [x].length = true := by
        simp [deepB, hk]
        omega
      rw [if_pos hd]
      have := depth_seq (l := repL h (expN x)) (d := Max.max 0 (depthN (expN x)) + 1) (by omega) (fun y hy => by
        rcases mem_repL hy with rfl | ⟨c, rfl⟩ | ⟨_, rfl⟩
        · omega
        · rw [depth_opt (.inl rfl)]; omega
        · rw [depth_opt (.inr rfl)]; omega)
      omega
    · rw [depthN, depthN, expL_map, List.length_map, ← expL_map]
      omega
theorem depth_expL : ∀ (l : List Nd) (a b : Int), formL l = true → a ≤ b → depthA a (expL l) ≤ depthA b l
  | [], a, b, _, h => by rw [expL, depthA, depthA]; exact h
  | n :: r, a, b, hf, h => by
    rw [formL, Bool.and_eq_true] at hf
    have := depth_exp n hf.1
    rw [expL, depthA, depthA]
    exact depth_expL r _ _ hf.2 (by omega)
end

end Go.Proofs.YtgfknlkpdiejgaaGreatDoor

namespace Go.Proofs.YtgfknlkpdiejgaaGreatDoor
open Go Go.RowKit

theorem min_if3 (a : Int) : Min.min a 2001 = if a < 2001 then a else 2001 := by rw [Int.min_def]; split <;> split <;> omega
theorem count_any2 (a b : Int) (w : World) (ha : 0 ≤ a ∧ a ≤ 1000000) (hb : 0 ≤ b ∧ b ≤ 1000000) :
    Calls Tryz.prog 67 #[.int .i64 a, .int .i64 b] w fun r w' => r = .returned (.int .i64 (Min.min (a + b) 2001)) ∧ w = w' := by
  have q1 : IntKind.i64.wrap (a + b) = a + b := by rw [IntKind.wrap_i64]; omega
  go_enter Tryz.func67, Tryz.ntmps67
  by_cases h : a + b < 2001
  all_goals
    go_wp2
    go_ret
    exact ⟨by first | (rw [min_if3]; first | (rw [if_pos (by omega)]; rfl) | (rw [if_neg (by omega)]; rfl)) | (rw [Int.min_comm]; rfl), rfl⟩
theorem min_le {a : Int} (h : 0 ≤ a) : 0 ≤ Min.min a 2001 ∧ Min.min a 2001 ≤ 1000000 := by omega
theorem min_step (a b : Int) (ha : 0 ≤ a) (hb : 0 ≤ b) : Min.min (Min.min a 2001 + Min.min b 2001) 2001 = Min.min (a + b) 2001 := by omega
/-- The parts of a repeat, laid one behind the other. -/
def partsZ (h : Hd) (s : Int) : Int := (h.min.toNat : Int) * s + ((h.max - h.min).toNat : Int) * (s + 1) + (if h.max = -1 then s + 1 else 0)
def manyZ (h : Hd) : Int := h.min.toNat + (h.max - h.min).toNat + (if h.max = -1 then 1 else 0)
theorem parts_rounds (h : Hd) (s : Int) (h0 : 0 ≤ h.min) (h2 : h.max = -1 ∨ h.min ≤ h.max) (hm : h.max ≠ 0) : roundsZ h s = partsZ h s + (if 1 < manyZ h then 1 else 0) := by
  obtain ⟨kind, set, num, mn, mx, bare⟩ := h
  simp only at h0 h2 hm
  unfold roundsZ partsZ manyZ
  simp only
  rcases h2 with rfl | h2
  · have e : (-1 - mn).toNat = 0 := by omega
    have e2 : (mn.toNat : Int) = mn := by omega
    rw [e, e2, if_neg (by omega)]
    simp only [if_true, Int.natCast_zero, Int.zero_mul, Int.add_zero]
    by_cases h3 : mn = 0
    · rw [if_pos ⟨h3, .inr trivial⟩, if_neg (by omega), h3, Int.zero_mul]; omega
    · rw [if_neg (fun h => h3 h.1), if_pos (by omega)]; omega
  · have e : ((mx - mn).toNat : Int) = mx - mn := by omega
    have e2 : (mn.toNat : Int) = mn := by omega
    rw [e, e2]
    have n1 : ¬ mx = -1 := by omega
    rw [if_neg n1, if_neg n1, if_neg n1]
    have ec : (mx - mn) * (1 + s) = (mx - mn) * (s + 1) := by rw [Int.add_comm 1 s]
    by_cases h3 : mn = 1 ∧ mx = 1
    · obtain ⟨rfl, rfl⟩ := h3
      rw [if_pos ⟨rfl, rfl⟩, if_neg (by omega)]
      simp
    · rw [if_neg h3]
      by_cases h4 : mn = 0 ∧ (mx = 1 ∨ mx = -1)
      · obtain ⟨rfl, h5⟩ := h4
        have : mx = 1 := by omega
        subst this
        rw [if_pos ⟨rfl, .inl rfl⟩, if_neg (by omega)]
        simp; omega
      · rw [if_neg h4, if_pos (by omega), ec]; omega

set_option maxRecDepth 100000 in
set_option maxHeartbeats 8000000 in
theorem size04_any : ∀ (n : Nd) (sv : Value) (w : World), NdOk w n sv → smallN n → formB n = true →
    Calls Tryz.prog 41 #[nodeV n.h sv] w fun r w' => r = .returned (.int .i64 (sizeN n)) ∧ Ext w w' := by
  refine Nd.ind fun hd subs ih sv w hn hsm hfm => ?_
  obtain ⟨A, c, rfl⟩ := hn.shape
  obtain ⟨hlen, hsm⟩ := hsm
  rw [formB, Bool.and_eq_true] at hfm
  obtain ⟨hfd, hfl⟩ := hfm
  have IH := Lib.hid (fun n hm sv w hn hf => ih n hm sv w hn (smallL_mem hsm n hm) hf)
  have HN := Lib.hid hn
  have HFL := Lib.hid hfl
  have hrep := fun hk => formed_rep hfd hk
  have hone := fun hk => formed_one hfd hk
  have HZ := Lib.hid (show sizeN (.mk hd subs) = if hd.kind = 8 ∧ hd.max = 0 then 1 else Min.min (if hd.kind = 8 then roundsZ hd (sizeA 0 subs) else sizeA 0 subs + 1) 2001 by rw [sizeN])
  clear ih hsm hfl hn hfd
  generalize sizeN (.mk hd subs) = ss at *
  simp only [Nd.h, Nd.subs] at *
  go_enter Tryz.func41, Tryz.ntmps41
  go_upto_region 1 with (refine wpl_boxNd rfl _ rfl hd _ rfl ?_; intro b w1 hb hx1 eb sb)
  have c0 : w1.cell? ⟨b, 0, none⟩ = some (.int .i64 hd.kind) := hb.cell 0
  have c5 : w1.cell? ⟨b, 5, none⟩ = some (.slice A subs.length c) := hb.cell 5
  have c7 : w1.cell? ⟨b, 7, none⟩ = some (.int .i64 hd.min) := hb.cell 7
  have c8 : w1.cell? ⟨b, 8, none⟩ = some (.int .i64 hd.max) := hb.cell 8
  have hx11 : Ext w1 w1 := Ext.refl w1
  clear hb
  by_cases hk : hd.kind = 8
  · obtain ⟨r1, r2, r3⟩ := hrep hk
    obtain ⟨x, rfl⟩ := hone hk
    clear hrep hone
    by_cases hm : hd.max = 0
    · have HS := Lib.hid (show ss = 1 by rw [HZ.out, if_pos ⟨hk, hm⟩])
      rw [hm] at c8
      rw [hk] at c0
      clear IH HN HFL HZ hk hm c5 c7 r1 r2 r3
      go_wp2
      go_ret
      exact ⟨by rw [HS.out]; rfl, hx1⟩
    · have hfx : formB x = true := by rw [← formL_one]; exact HFL.out
      have hsx := sizeN_range x hfx
      have HS := Lib.hid (show ss = Min.min (partsZ hd (sizeN x) + (if 1 < manyZ hd then 1 else 0)) 2001 by
        rw [HZ.out, if_neg (fun h => hm h.2), if_pos hk, ← parts_rounds hd _ r1 (r3.imp id (·.1)) hm, sizeA, sizeA]
        congr 2
        omega)
      have HPZ := Lib.hid (show partsZ hd (sizeN x) = (hd.min.toNat : Int) * sizeN x + ((hd.max - hd.min).toNat : Int) * (sizeN x + 1) + (if hd.max = -1 then sizeN x + 1 else 0) from rfl)
      have HMZ := Lib.hid (show manyZ hd = hd.min.toNat + (hd.max - hd.min).toNat + (if hd.max = -1 then 1 else 0) from rfl)
      obtain ⟨g0, o0, svx, rfl, hat, hok⟩ := HN.out.get 0 (by simp)
      simp only [List.getElem_cons_zero, Nat.zero_mul, Nat.add_zero] at hat hok
      have IHx := Lib.hid (IH.out x (by simp) svx w1 (hok.ext hx1) hfx)
      replace hat := hat.ext hx1
      rw [hk] at c0
      clear IH HN HFL HZ hfx hok hk
      simp only [List.length_cons, List.length_nil] at *
      generalize sizeN x = s at *
      generalize partsZ hd s = pz at *
      generalize manyZ hd = mz at *
      generalize hd.min = mn at *
      generalize hd.max = mx at *
      have k8 : (mx == 0) = false := by simpa using hm
      go_upto_region 11 with (first
        | (refine wpl_loadNd rfl _ rfl g0 o0 x.h svx rfl hat ?_)
        | (go_at_call 41; refine IHx.out.mono ?_; rintro e w2 ⟨rfl, hx2⟩))
      replace c7 := hx2.cell c7
      replace c8 := hx2.cell c8
      have hx12 := hx1.trans hx2
      clear IHx hat c0 c5 hx11 hx1 hx2
      have hMul : ∀ k : Nat, 0 ≤ (k : Int) * s ∧ 0 ≤ (k : Int) * (s + 1) := fun k => ⟨Int.mul_nonneg (by omega) hsx.1, Int.mul_nonneg (by omega) (by omega)⟩
      have HMU := Lib.hid hMul
      clear hMul
      go_wp2
      go_loop [6, 7, 8] (fun p n i => ∃ k : Nat, k ≤ mn.toNat ∧ i = .int .i64 k ∧ p = .int .i64 k ∧ n = .int .i64 (Min.min ((k : Int) * s) 2001)) (fun _ _ i => mn.toNat - (intOf i).toNat)
      case atStart => exact ⟨0, Nat.zero_le _, rfl, rfl, by rw [Int.natCast_zero, Int.zero_mul]; rfl⟩
      case round =>
        obtain ⟨k, hk, rfl, rfl, rfl⟩ := hrel
        have hmk := HMU.out k
        by_cases hlt : (k : Int) < mn
        · have HC := Lib.hid (count_any2 (Min.min ((k : Int) * s) 2001) s w2 (min_le hmk.1) ⟨hsx.1, by omega⟩)
          have HE := Lib.hid (show Min.min (Min.min ((k : Int) * s) 2001 + s) 2001 = Min.min (((k + 1 : Nat) : Int) * s) 2001 by
            rw [show ((k + 1 : Nat) : Int) * s = (k : Int) * s + s by rw [Int.natCast_succ, Int.add_mul, Int.one_mul]]
            omega)
          have q8 : IntKind.i64.wrap ((k : Int) + 1) = ((k + 1 : Nat) : Int) := by rw [IntKind.wrap_i64]; omega
          rw [HE.out] at HC
          generalize Min.min ((k : Int) * s) 2001 = acc at *
          generalize hacc : Min.min (((k + 1 : Nat) : Int) * s) 2001 = acc2 at *
          have HAC := Lib.hid hacc
          clear hacc
          clear HS HPZ HMZ HE
          go_wp2_with (go_at_call 67; refine HC.out.mono ?_; rintro e w6 ⟨rfl, rfl⟩)
          go_round
          case rel => exact ⟨k + 1, by omega, rfl, rfl, by rw [HAC.out]⟩
          case measure => simp [intOf]; omega
        · have hkm : k = mn.toNat := by omega
          subst hkm
          have HK := Lib.hid (show ((mn.toNat : Nat) : Int) = mn by omega)
          generalize hmn : mn.toNat = kk at *
          have hkb : (kk : Int) ≤ 255 := by omega
          clear hmn hk
          have hMk := (HMU.out kk).1
          generalize (kk : Int) * s = base at *
          go_wp2
          go_loop [6, 7, 9] (fun p n i => ∃ m : Nat, m ≤ (mx - mn).toNat ∧ i = .int .i64 (mn + m) ∧ p = .int .i64 (kk + m) ∧ n = .int .i64 (Min.min (base + (m : Int) * (s + 1)) 2001)) (fun _ _ i => (mx - intOf i).toNat)
          case atStart => exact ⟨0, Nat.zero_le _, by simp, by simp, by simp⟩
          case round =>
            obtain ⟨m, hm', rfl, rfl, rfl⟩ := hrel
            have hmk := (HMU.out m).2
            generalize hacc : base + (m : Int) * (s + 1) = acc at *
            have hacc0 : 0 ≤ acc := by omega
            by_cases hlt2 : mn + (m : Int) < mx
            · have HC := Lib.hid (count_any2 (Min.min acc 2001) s w2 (min_le hacc0) ⟨hsx.1, by omega⟩)
              have HC2 := Lib.hid (count_any2 (Min.min (acc + s) 2001) 1 w2 (min_le (by omega)) (by omega))
              have HE := Lib.hid (show Min.min (Min.min acc 2001 + s) 2001 = Min.min (acc + s) 2001 by omega)
              have HE2 := Lib.hid (show Min.min (Min.min (acc + s) 2001 + 1) 2001 = Min.min (base + ((m + 1 : Nat) : Int) * (s + 1)) 2001 by
                rw [show ((m + 1 : Nat) : Int) * (s + 1) = (m : Int) * (s + 1) + (s + 1) by rw [Int.natCast_succ, Int.add_mul, Int.one_mul], ← Int.add_assoc, hacc]
                omega)
              rw [HE.out] at HC
              rw [HE2.out] at HC2
              have q8 : IntKind.i64.wrap ((kk : Int) + m + 1) = (kk : Int) + m + 1 := by rw [IntKind.wrap_i64]; omega
              have q9 : IntKind.i64.wrap (mn + (m : Int) + 1) = mn + m + 1 := by rw [IntKind.wrap_i64]; omega
              clear HS HPZ HMZ HE HE2 hacc HK
              generalize Min.min acc 2001 = v1 at *
              generalize Min.min (acc + s) 2001 = v2 at *
              generalize hv3 : Min.min (base + ((m + 1 : Nat) : Int) * (s + 1)) 2001 = v3 at *
              have HV3 := Lib.hid hv3
              clear hv3
              go_wp2_with (first
                | (go_at_call 67; refine HC.out.mono ?_; rintro e w6 ⟨rfl, rfl⟩)
                | (go_at_call 67; refine HC2.out.mono ?_; rintro e w6 ⟨rfl, rfl⟩))
              go_round
              case rel => exact ⟨m + 1, by omega, by congr 1; omega, by congr 1, by rw [HV3.out]⟩
              case measure => simp [intOf]; omega
            · have hmm : m = (mx - mn).toNat := by omega
              have HMM := Lib.hid hmm
              have HAC := Lib.hid hacc
              clear hmm hacc
              by_cases h1 : mx = -1
              · subst h1
                have HSS := Lib.hid (show ss = Min.min (acc + (s + 1) + (if 1 < (kk : Int) + m + 1 then 1 else 0)) 2001 by
                  rw [HS.out, HPZ.out, HMZ.out, if_pos rfl, if_pos rfl, ← HMM.out, HAC.out])
                have HC := Lib.hid (count_any2 (Min.min acc 2001) s w2 (min_le hacc0) ⟨hsx.1, by omega⟩)
                have HC2 := Lib.hid (count_any2 (Min.min (acc + s) 2001) 1 w2 (min_le (by omega)) (by omega))
                have HC3 := Lib.hid (count_any2 (Min.min (acc + (s + 1)) 2001) 1 w2 (min_le (by omega)) (by omega))
                have HE := Lib.hid (show Min.min (Min.min acc 2001 + s) 2001 = Min.min (acc + s) 2001 by omega)
                have HE2 := Lib.hid (show Min.min (Min.min (acc + s) 2001 + 1) 2001 = Min.min (acc + (s + 1)) 2001 by omega)
                have HE3 := Lib.hid (show Min.min (Min.min (acc + (s + 1)) 2001 + 1) 2001 = Min.min (acc + (s + 1) + 1) 2001 by omega)
                rw [HE.out] at HC
                rw [HE2.out] at HC2
                rw [HE3.out] at HC3
                have q8 : IntKind.i64.wrap ((kk : Int) + m + 1) = (kk : Int) + m + 1 := by rw [IntKind.wrap_i64]; omega
                clear HS HPZ HMZ HE HE2 HE3 HAC HMM HK hm k8
                by_cases hp : 1 < (kk : Int) + m + 1
                all_goals
                  have HSF := Lib.hid HSS.out
                  first | rw [if_pos hp] at HSF | (rw [if_neg hp, Int.add_zero] at HSF)
                  clear HSS
                  generalize Min.min acc 2001 = v1 at *
                  generalize Min.min (acc + s) 2001 = v2 at *
                  generalize Min.min (acc + (s + 1)) 2001 = v3 at *
                  try generalize Min.min (acc + (s + 1) + 1) 2001 = v4 at *
                  go_wp2_with (first
                    | (go_at_call 67; refine HC.out.mono ?_; rintro e w6 ⟨rfl, rfl⟩)
                    | (go_at_call 67; refine HC2.out.mono ?_; rintro e w6 ⟨rfl, rfl⟩)
                    | (go_at_call 67; refine HC3.out.mono ?_; rintro e w6 ⟨rfl, rfl⟩))
                  go_ret
                  exact ⟨by rw [HSF.out]; rfl, hx12⟩
              · have HSS := Lib.hid (show ss = Min.min (acc + (if 1 < (kk : Int) + m then 1 else 0)) 2001 by
                  rw [HS.out, HPZ.out, HMZ.out, if_neg h1, if_neg h1, ← HMM.out, HAC.out, Int.add_zero, Int.add_zero])
                have HC := Lib.hid (count_any2 (Min.min acc 2001) 1 w2 (min_le hacc0) (by omega))
                have HE := Lib.hid (show Min.min (Min.min acc 2001 + 1) 2001 = Min.min (acc + 1) 2001 by omega)
                rw [HE.out] at HC
                have n1 : (mx == -1) = false := by simpa using h1
                clear HS HPZ HMZ HE HAC HMM HK hm k8
                by_cases hp : 1 < (kk : Int) + m
                all_goals
                  have HSF := Lib.hid HSS.out
                  first | rw [if_pos hp] at HSF | (rw [if_neg hp, Int.add_zero] at HSF)
                  clear HSS
                  generalize Min.min acc 2001 = v1 at *
                  try generalize Min.min (acc + 1) 2001 = v2 at *
                  go_wp2_with (go_at_call 67; refine HC.out.mono ?_; rintro e w6 ⟨rfl, rfl⟩)
                  go_ret
                  exact ⟨by rw [HSF.out]; rfl, hx12⟩
  · have HS := Lib.hid (show ss = Min.min (sizeA 0 subs + 1) 2001 by rw [HZ.out, if_neg (fun h => hk h.1), if_neg hk])
    have n1 : (hd.kind != 8) = true := by simpa using hk
    clear hrep hone HZ hk c7 c8
    generalize hd.kind = kind at *
    go_wp2
    go_loopw [3, 4] (fun a i wr => ∃ k : Nat, k ≤ subs.length ∧ i = .int .i64 k ∧ a = .int .i64 (Min.min (sizeA 0 (subs.take k) + 1) 2001) ∧ Ext w1 wr) (fun _ i _ => subs.length - (intOf i).toNat)
    case atStart => exact ⟨0, Nat.zero_le _, rfl, by rw [List.take_zero, sizeA]; rfl, hx11⟩
    case round =>
      clear hx11 c0 n1
      obtain ⟨k, hk', rfl, rfl, hx⟩ := hrel
      have hxw := hx1.trans hx
      replace c5 := hx.cell c5
      by_cases hlt : k < subs.length
      · have hfk : formL (subs.take k) = true := by
          have h1 := HFL.out
          rw [← List.take_append_drop k subs, formL_app, Bool.and_eq_true] at h1
          exact h1.1
        obtain ⟨r1, r2⟩ := sizeA_range (subs.take k) 0 hfk (by omega) (by omega)
        obtain ⟨g0, o0, sv, rfl, hat, hok⟩ := HN.out.get k hlt
        have hfn : formB subs[k] = true := by
          have h1 := HFL.out
          rw [← List.take_append_drop (k + 1) subs, formL_app, take_snoc subs k hlt, formL_app, formL_one, Bool.and_eq_true, Bool.and_eq_true] at h1
          exact h1.1.2
        obtain ⟨r3, r4⟩ := sizeN_range _ hfn
        replace hat := hat.ext hxw
        have IHk := Lib.hid (IH.out subs[k] (List.getElem_mem hlt) sv wr (NdOk.ext hxw _ _ hok) hfn)
        have HST := Lib.hid (show Min.min (sizeA 0 (subs.take (k + 1)) + 1) 2001 = Min.min (Min.min (sizeA 0 (subs.take k) + 1) 2001 + sizeN subs[k]) 2001 by rw [take_snoc subs k hlt, sizeA_app, sizeA, sizeA]; omega)
        have HC := Lib.hid (fun W => count_any2 (Min.min (sizeA 0 (subs.take k) + 1) 2001) (sizeN subs[k]) W (min_le (by omega)) ⟨r3, by omega⟩)
        rw [← HST.out] at HC
        clear IH HN HFL hok hfk hfn HS
        generalize Min.min (sizeA 0 (subs.take k) + 1) 2001 = v1 at *
        generalize hv2 : Min.min (sizeA 0 (subs.take (k + 1)) + 1) 2001 = v2 at *
        have HV2 := Lib.hid hv2
        clear hv2 HST
        generalize sizeN subs[k] = res at *
        generalize subs[k] = nk at *
        have t1 : (k : Int) < (subs.length : Int) := by omega
        go_wp2_with (first
          | (refine wpl_loadNd rfl _ rfl g0 (o0 + k * 10) nk.h sv rfl hat ?_)
          | (go_at_call 41; refine IHk.out.mono ?_; rintro e w6 ⟨rfl, hx6⟩)
          | (go_at_call 67; refine (HC.out _).mono ?_; rintro e w7 ⟨rfl, rfl⟩))
        go_roundw
        case rel => exact ⟨k + 1, by omega, by go_num, by rw [HV2.out], hx.trans hx6⟩
        case measure => simp [intOf]; omega
      · have hkl : subs.take k = subs := List.take_of_length_le (by omega)
        rw [hkl]
        have t1 : ¬ (k : Int) < (subs.length : Int) := by omega
        rw [← HS.out]
        clear IH HN HFL hkl HS
        go_wp2
        go_ret
        exact ⟨rfl, hxw⟩

end Go.Proofs.YtgfknlkpdiejgaaGreatDoor

namespace Go.Proofs.YtgfknlkpdiejgaaGreatDoor

def wordsB (p q : Nat → Bool) : Bool := decide ((wd p 0 : Int) = (wd q 0 : Int) ∧ (wd p 1 : Int) = (wd q 1 : Int) ∧ (wd p 2 : Int) = (wd q 2 : Int) ∧ (wd p 3 : Int) = (wd q 3 : Int))
def sameH (h h' : Hd) : Bool := decide (h.kind = h'.kind) && wordsB h.set h'.set && decide (h.num = h'.num) && decide (h.min = h'.min) && decide (h.max = h'.max) && (h.bare == h'.bare)
mutual
def sameN : Nd → Nd → Bool
  | .mk h s, .mk h' s' => sameH h h' && decide (s.length = s'.length) && sameL s s'
def sameL : List Nd → List Nd → Bool
  | [], _ => true
  | _ :: _, [] => true
  | a :: r, b :: r' => sameN a b && sameL r r'
end
theorem wordsB_refl (p : Nat → Bool) : wordsB p p = true := by simp [wordsB]
theorem sameH_refl (h : Hd) : sameH h h = true := by simp [sameH, wordsB_refl]
mutual
theorem sameN_refl : ∀ n, sameN n n = true
  | .mk h s => by simp [sameN, sameH_refl, sameL_refl s]
theorem sameL_refl : ∀ l, sameL l l = true
  | [] => by simp [sameL]
  | a :: r => by simp [sameL, sameN_refl a, sameL_refl r]
end
theorem sameL_app : ∀ (a b c d : List Nd), a.length = b.length → sameL (a ++ c) (b ++ d) = (sameL a b && sameL c d)
  | [], [], _, _, _ => by simp [sameL]
  | x :: a, y :: b, c, d, h => by
    show sameL (x :: (a ++ c)) (y :: (b ++ d)) = _
    rw [sameL, sameL, sameL_app a b c d (by simpa using h), Bool.and_assoc]
  | [], _ :: _, _, _, h => by cases h
  | _ :: _, [], _, _, h => by cases h
theorem sameL_one (a b : Nd) : sameL [a] [b] = sameN a b := by simp [sameL]
theorem sameL_step {s s' : List Nd} {k : Nat} (h : k < s.length) (h' : k < s'.length) (ht : sameL (s.take k) (s'.take k) = true) : sameL (s.take (k + 1)) (s'.take (k + 1)) = sameN s[k] s'[k] := by
  rw [take_snoc s k h, take_snoc s' k h', sameL_app _ _ _ _ (by simp; omega), ht, sameL_one, Bool.true_and]
theorem sameL_stop {s s' : List Nd} {k : Nat} (h : k < s.length) (h' : k < s'.length) (ht : sameN s[k] s'[k] = false) : sameL s s' = false := by
  have e : s = s.take k ++ s[k] :: s.drop (k + 1) := by rw [← List.drop_eq_getElem_cons h, List.take_append_drop]
  have e' : s' = s'.take k ++ s'[k] :: s'.drop (k + 1) := by rw [← List.drop_eq_getElem_cons h', List.take_append_drop]
  have h1 : sameL (s.take k ++ s[k] :: s.drop (k + 1)) (s'.take k ++ s'[k] :: s'.drop (k + 1)) = false := by
    rw [sameL_app _ _ _ _ (by simp; omega), sameL, ht, Bool.false_and, Bool.and_false]
  rw [← e, ← e'] at h1
  exact h1
theorem sameH_once {h h' : Hd} (hs : sameH h h' = true) : onceB h = onceB h' := by
  simp only [sameH, Bool.and_eq_true, decide_eq_true_eq] at hs
  obtain ⟨⟨⟨⟨⟨h1, _⟩, _⟩, h2⟩, h3⟩, _⟩ := hs
  simp only [onceB, h1, h2, h3]
mutual
theorem same_plain : ∀ (a b : Nd), sameN a b = true → plainN a = plainN b
  | .mk h s, .mk h' s', hs => by
    rw [sameN, Bool.and_eq_true, Bool.and_eq_true, decide_eq_true_eq] at hs
    rw [plainN, plainN, sameH_once hs.1.1, same_plainL s s' hs.1.2 hs.2]
theorem same_plainL : ∀ (a b : List Nd), a.length = b.length → sameL a b = true → plainL a = plainL b
  | [], [], _, _ => rfl
  | x :: a, y :: b, hl, hs => by
    rw [sameL, Bool.and_eq_true] at hs
    rw [plainL, plainL, same_plain x y hs.1, same_plainL a b (by simpa using hl) hs.2]
  | [], _ :: _, h, _ => by cases h
  | _ :: _, [], h, _ => by cases h
end
/-- A right tree is plain just if it is like its expansion. -/
theorem same_exp (n : Nd) (hf : formB n = true) : sameN (expN n) n = plainN n := by
  cases hp : plainN n
  · rw [Bool.eq_false_iff]
    intro h
    have := same_plain _ _ h
    rw [plain_exp n hf, hp] at this
    cases this
  · rw [exp_plain n hf hp, sameN_refl]

end Go.Proofs.YtgfknlkpdiejgaaGreatDoor
