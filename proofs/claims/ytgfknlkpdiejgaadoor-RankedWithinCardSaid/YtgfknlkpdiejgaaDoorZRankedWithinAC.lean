/- The depth of a tree, in plain words. No program. tree.rounds as a contract. Condition: a repeat in form, few nodes below. tree.size as a contract. Condition: the tree lies in memory, its lists are short, it is in form. The expansion of a tree, in plain words. No program. -/
import Derived.Test.YtgfknlkpdiejgaaDoorForm
namespace Go.Proofs.YtgfknlkpdiejgaaDoor

/-- Does a repeat count once more? -/
def deepB (h : Hd) (len : Nat) : Bool := decide (h.kind = 8) && decide (0 < len) && (decide (h.min ≠ 0) || (decide (h.max ≠ 1) && decide (h.max ≠ -1)))
mutual
def depthN : Nd → Int
  | .mk h subs => depthA 0 subs + (if deepB h subs.length = true then 1 else 0) + 1
def depthA : Int → List Nd → Int
  | a, [] => a
  | a, n :: r => depthA (Max.max a (depthN n)) r
end
theorem depthA_app : ∀ (a : Int) (l r : List Nd), depthA a (l ++ r) = depthA (depthA a l) r
  | _, [], _ => rfl
  | a, n :: l, r => by
    show depthA a (n :: (l ++ r)) = depthA (depthA a (n :: l)) r
    rw [depthA, depthA, depthA_app _ l r]
mutual
/-- A tree of few nodes is not deep. -/
theorem depthN_few : ∀ (n : Nd) (m : Int), 0 ≤ leftN n m → 1 ≤ depthN n ∧ depthN n ≤ 2 * (m - leftN n m)
  | .mk h subs, m, hl => by
    unfold leftN at hl ⊢
    have := depthA_few subs (m - 1) 0 hl (by omega)
    have h2 := leftL_len subs (m - 1) hl
    unfold depthN
    split <;> omega
theorem depthA_few : ∀ (l : List Nd) (m a : Int), 0 ≤ leftL l m → 0 ≤ a → a ≤ depthA a l ∧ depthA a l ≤ Max.max a (2 * (m - leftL l m))
  | [], m, a, hl, h0 => by unfold leftL depthA; omega
  | n :: r, m, a, hl, h0 => by
    by_cases hm : 0 ≤ m
    · rw [leftL, if_pos hm] at hl ⊢
      have h2 : 0 ≤ leftN n m := by
        rcases Int.lt_or_le (leftN n m) 0 with h3 | h3
        · rw [leftL_neg _ _ h3] at hl; omega
        · exact h3
      have h3 := depthN_few n m h2
      have h4 := leftL_range r (leftN n m) (by omega)
      have h5 := depthA_few r (leftN n m) (Max.max a (depthN n)) hl (by omega)
      rw [depthA]
      omega
    · rw [leftL_neg _ _ (by omega)] at hl
      omega
end

end Go.Proofs.YtgfknlkpdiejgaaDoor

namespace Go.Proofs.YtgfknlkpdiejgaaDoor
open Go.RowKit

def roundsZ (h : Hd) (n : Int) : Int :=
  if h.min = 1 ∧ h.max = 1 then n
  else if h.min = 0 ∧ (h.max = 1 ∨ h.max = -1) then 1 + n
  else if h.max = -1 then 1 + h.min * n + 1 + n
  else 1 + h.min * n + (h.max - h.min) * (1 + n)

set_option maxRecDepth 100000 in
set_option maxHeartbeats 8000000 in
theorem rounds_any (h : Hd) (sv : Value) (n : Int) (w : World) (h0 : 0 ≤ h.min) (h1 : h.min ≤ 255) (h2 : h.max = -1 ∨ (h.min ≤ h.max ∧ h.max ≤ 255)) (hn0 : 0 ≤ n) (hn1 : n ≤ 2001) (hsv : ∃ A l c, sv = .slice A l c) :
    Calls Tryd.prog 32 #[nodeV h sv, .int .i64 n] w fun r w' => r = .returned (.int .i64 (roundsZ h n)) ∧ Ext w w' := by
  obtain ⟨kind, set, num, mn, mx, bare⟩ := h
  obtain ⟨A, len, c, rfl⟩ := hsv
  simp only at h0 h1 h2
  have m1 : 0 ≤ mn * n := Int.mul_nonneg h0 hn0
  have m2 : mn * n ≤ 255 * 2001 := Int.mul_le_mul h1 hn1 hn0 (by omega)
  unfold nodeV
  simp only
  go_enter Tryd.func32, Tryd.ntmps32
  go_upto_region 1 with fail
  have nb := Blk.new w 27 #[.int .i64 kind, .int .u64 (wd set 0 : Int), .int .u64 (wd set 1 : Int), .int .u64 (wd set 2 : Int), .int .u64 (wd set 3 : Int), .slice A len c, .int .i64 num, .int .i64 mn, .int .i64 mx, .bool bare]
  have hx := (Ext.refl w).alloc (.cells #[.int .i64 kind, .int .u64 (wd set 0 : Int), .int .u64 (wd set 1 : Int), .int .u64 (wd set 2 : Int), .int .u64 (wd set 3 : Int), .slice A len c, .int .i64 num, .int .i64 mn, .int .i64 mx, .bool bare] 27)
  generalize w.alloc (.cells #[.int .i64 kind, .int .u64 (wd set 0 : Int), .int .u64 (wd set 1 : Int), .int .u64 (wd set 2 : Int), .int .u64 (wd set 3 : Int), .slice A len c, .int .i64 num, .int .i64 mn, .int .i64 mx, .bool bare] 27) = w1 at *
  generalize w.heap.size = b at *
  have c7 := nb.cell 7
  have c8 := nb.cell 8
  simp only [List.getElem?_toArray, List.getElem?_cons_succ, List.getElem?_cons_zero] at c7 c8
  clear nb
  by_cases a1 : mn = 1 ∧ mx = 1
  · obtain ⟨rfl, rfl⟩ := a1
    go_wp2
    go_ret
    exact ⟨rfl, hx⟩
  by_cases a2 : mn = 0 ∧ (mx = 1 ∨ mx = -1)
  · obtain ⟨rfl, rfl | rfl⟩ := a2
    all_goals
      have q1 : IntKind.i64.wrap (1 + n) = 1 + n := by rw [IntKind.wrap_i64]; omega
      go_wp2
      go_ret
      exact ⟨by simp [roundsZ], hx⟩
  by_cases a3 : mx = -1
  · subst a3
    have q1 : IntKind.i64.wrap (mn * n) = mn * n := by rw [IntKind.wrap_i64]; omega
    have q2 : IntKind.i64.wrap (1 + mn * n) = 1 + mn * n := by rw [IntKind.wrap_i64]; omega
    have q3 : IntKind.i64.wrap (1 + mn * n + 1) = 1 + mn * n + 1 := by rw [IntKind.wrap_i64]; omega
    have q4 : IntKind.i64.wrap (1 + mn * n + 1 + n) = 1 + mn * n + 1 + n := by rw [IntKind.wrap_i64]; omega
    have HR := Lib.hid (show roundsZ ⟨kind, set, num, mn, -1, bare⟩ n = 1 + mn * n + 1 + n by
      unfold roundsZ
      rw [if_neg (by simp), if_neg (by simp only; omega), if_pos rfl])
    have d1 : mn ≠ 0 := by omega
    go_wp2
    all_goals
      go_ret
      exact ⟨by first | (rw [HR.out]; rfl) | (simp [roundsZ, *]; done) | (simp [roundsZ, *]; omega), hx⟩
  · have hmx : mn ≤ mx ∧ mx ≤ 255 := h2.resolve_left a3
    have m3 : 0 ≤ (mx - mn) * (1 + n) := Int.mul_nonneg (by omega) (by omega)
    have m4 : (mx - mn) * (1 + n) ≤ 255 * 2002 := Int.mul_le_mul (by omega) (by omega) (by omega) (by omega)
    have q1 : IntKind.i64.wrap (mn * n) = mn * n := by rw [IntKind.wrap_i64]; omega
    have q2 : IntKind.i64.wrap (1 + mn * n) = 1 + mn * n := by rw [IntKind.wrap_i64]; omega
    have q3 : IntKind.i64.wrap (mx - mn) = mx - mn := by rw [IntKind.wrap_i64]; omega
    have q4 : IntKind.i64.wrap (1 + n) = 1 + n := by rw [IntKind.wrap_i64]; omega
    have q5 : IntKind.i64.wrap ((mx - mn) * (1 + n)) = (mx - mn) * (1 + n) := by rw [IntKind.wrap_i64]; omega
    have q6 : IntKind.i64.wrap (1 + mn * n + (mx - mn) * (1 + n)) = 1 + mn * n + (mx - mn) * (1 + n) := by rw [IntKind.wrap_i64]; omega
    have HR := Lib.hid (show roundsZ ⟨kind, set, num, mn, mx, bare⟩ n = 1 + mn * n + (mx - mn) * (1 + n) by
      unfold roundsZ
      rw [if_neg a1, if_neg a2, if_neg a3])
    have hd : (mn = 1 ∧ mx ≠ 1) ∨ (mn = 0 ∧ mx ≠ 1) ∨ (mn ≠ 0 ∧ mn ≠ 1) := by omega
    rcases hd with ⟨rfl, hd⟩ | ⟨rfl, hd⟩ | ⟨hd1, hd2⟩
    case' inr.inl =>
      rw [Int.sub_zero] at m3 m4
      have w1 : IntKind.i64.wrap (mx * (1 + n)) = mx * (1 + n) := by rw [IntKind.wrap_i64]; omega
      have w2 : IntKind.i64.wrap (1 + mx * (1 + n)) = 1 + mx * (1 + n) := by rw [IntKind.wrap_i64]; omega
      have n1 : (mx == 1) = false := by simpa using hd
      have n2 : (mx == -1) = false := by simpa using a3
      clear q1 q2 q3 q5 q6 a1 a2
    all_goals
      go_wp2
      all_goals
        go_ret
        exact ⟨by rw [HR.out]; first | rfl | (simp; done), hx⟩

end Go.Proofs.YtgfknlkpdiejgaaDoor

namespace Go.Proofs.YtgfknlkpdiejgaaDoor
open Go.RowKit

mutual
def sizeN : Nd → Int
  | .mk h subs => if h.kind = 8 ∧ h.max = 0 then 1 else Min.min (if h.kind = 8 then roundsZ h (sizeA 0 subs) else sizeA 0 subs + 1) 2001
def sizeA : Int → List Nd → Int
  | a, [] => a
  | a, n :: r => sizeA (Min.min (a + sizeN n) 2001) r
end
theorem sizeA_app : ∀ (a : Int) (l r : List Nd), sizeA a (l ++ r) = sizeA (sizeA a l) r
  | _, [], _ => rfl
  | a, n :: l, r => by
    show sizeA a (n :: (l ++ r)) = sizeA (sizeA a (n :: l)) r
    rw [sizeA, sizeA, sizeA_app _ l r]
theorem rounds_nonneg (h : Hd) (n : Int) (h0 : 0 ≤ h.min) (h2 : h.max = -1 ∨ h.min ≤ h.max) (hn : 0 ≤ n) : 0 ≤ roundsZ h n := by
  have m1 : 0 ≤ h.min * n := Int.mul_nonneg h0 hn
  unfold roundsZ
  split
  · exact hn
  · split
    · omega
    · split
      · omega
      · have m3 : 0 ≤ (h.max - h.min) * (1 + n) := Int.mul_nonneg (by omega) (by omega)
        omega
theorem formed_rep {h : Hd} {l : Nat} (hf : formedB h l = true) (hk : h.kind = 8) : 0 ≤ h.min ∧ h.min ≤ 255 ∧ (h.max = -1 ∨ (h.min ≤ h.max ∧ h.max ≤ 255)) := by
  unfold formedB at hf
  rw [if_neg (by omega), if_neg (by omega), if_neg (by omega), if_neg (by omega), if_pos hk] at hf
  simp only [Bool.and_eq_true, Bool.or_eq_true, decide_eq_true_eq] at hf
  obtain ⟨⟨⟨⟨_, h1⟩, h2⟩, _⟩, h3⟩ := hf
  exact ⟨h1, h2, h3⟩
mutual
theorem sizeN_range : ∀ (n : Nd), formB n = true → 0 ≤ sizeN n ∧ sizeN n ≤ 2001
  | .mk h subs, hf => by
    rw [formB, Bool.and_eq_true] at hf
    have h1 := sizeA_range subs 0 hf.2 (by omega) (by omega)
    unfold sizeN
    split
    · omega
    · split
      · rename_i hk
        obtain ⟨r1, _, r3⟩ := formed_rep hf.1 hk
        have := rounds_nonneg h (sizeA 0 subs) r1 (r3.imp id (·.1)) h1.1
        omega
      · omega
theorem sizeA_range : ∀ (l : List Nd) (a : Int), formL l = true → 0 ≤ a → a ≤ 2001 → 0 ≤ sizeA a l ∧ sizeA a l ≤ 2001
  | [], a, _, h0, h1 => by unfold sizeA; omega
  | n :: r, a, hf, h0, h1 => by
    rw [formL, Bool.and_eq_true] at hf
    have h2 := sizeN_range n hf.1
    rw [sizeA]
    exact sizeA_range r _ hf.2 (by omega) (by omega)
end

end Go.Proofs.YtgfknlkpdiejgaaDoor

namespace Go.Proofs.YtgfknlkpdiejgaaDoor

def noS : Nat → Bool := fun _ => false
def hdV (k : Int) : Hd := ⟨k, noS, 0, 0, 0, false⟩
def optN (mx : Int) (bare : Bool) (x : Nd) : Nd := .mk ⟨8, noS, 0, 0, mx, bare⟩ [x]
def seqN : List Nd → Nd
  | [] => .mk (hdV 1) []
  | [x] => x
  | a :: b :: l => .mk (hdV 5) (a :: b :: l)
def optsL (x : Nd) : Bool → Nat → List Nd
  | _, 0 => []
  | b, m + 1 => optN 1 b x :: optsL x true m
def repL (h : Hd) (x : Nd) : List Nd := List.replicate h.min.toNat x ++ optsL x (h.bare || decide (0 < h.min)) (h.max - h.min).toNat ++ (if h.max = -1 then [optN (-1) true x] else [])
def repN (h : Hd) (x : Nd) : Nd := if h.max = 0 then .mk (hdV 1) [] else if h.min = 0 ∧ (h.max = 1 ∨ h.max = -1) then .mk h [x] else seqN (repL h x)
def headN : List Nd → Nd
  | [] => .mk (hdV 0) []
  | x :: _ => x
mutual
def expN : Nd → Nd
  | .mk h subs => if h.kind = 8 then repN h (headN (expL subs)) else .mk h (expL subs)
def expL : List Nd → List Nd
  | [] => []
  | n :: r => expN n :: expL r
end
theorem expL_map : ∀ l, expL l = l.map expN
  | [] => by rw [expL]; rfl
  | n :: r => by rw [expL, expL_map r]; rfl
theorem optsL_len (x : Nd) : ∀ (b : Bool) (m : Nat), (optsL x b m).length = m
  | _, 0 => rfl
  | b, m + 1 => by rw [optsL, List.length_cons, optsL_len x true m]
theorem optsL_snoc (x : Nd) : ∀ (b : Bool) (m : Nat), optsL x b (m + 1) = optsL x b m ++ [optN 1 (if m = 0 then b else true) x]
  | b, 0 => rfl
  | b, m + 1 => by
    have e : (if m = 0 then true else true) = true := by split <;> rfl
    rw [optsL, optsL_snoc x true m, optsL, e]
    rfl
theorem mem_optsL {x y : Nd} : ∀ {b : Bool} {m : Nat}, y ∈ optsL x b m → ∃ c, y = optN 1 c x
  | _, 0, h => by cases h
  | b, m + 1, h => by
    rw [optsL] at h
    rcases List.mem_cons.1 h with rfl | h
    · exact ⟨b, rfl⟩
    · exact mem_optsL h
theorem mem_repL {h : Hd} {x y : Nd} (hy : y ∈ repL h x) : y = x ∨ (∃ c, y = optN 1 c x) ∨ (h.max = -1 ∧ y = optN (-1) true x) := by
  unfold repL at hy
  rcases List.mem_append.1 hy with hy | hy
  · rcases List.mem_append.1 hy with hy | hy
    · exact .inl (List.eq_of_mem_replicate hy)
    · exact .inr (.inl (mem_optsL hy))
  · split at hy
    · rename_i hm
      simp only [List.mem_singleton] at hy
      exact .inr (.inr ⟨hm, hy⟩)
    · cases hy
theorem repL_len (h : Hd) (x : Nd) : (repL h x).length = h.min.toNat + (h.max - h.min).toNat + (if h.max = -1 then 1 else 0) := by
  unfold repL
  rw [List.length_append, List.length_append, List.length_replicate, optsL_len]
  split <;> rfl

theorem smallL_of : ∀ {l : List Nd}, (∀ n ∈ l, smallN n) → smallL l
  | [], _ => trivial
  | a :: r, h => ⟨h a (by simp), smallL_of fun n hn => h n (by simp [hn])⟩
theorem small_opt {mx : Int} {b : Bool} {x : Nd} (h : smallN x) : smallN (optN mx b x) := ⟨by simp, h, trivial⟩
theorem small_seq {l : List Nd} (hl : l.length ≤ 1000000) (h : ∀ n ∈ l, smallN n) : smallN (seqN l) := by
  match l, hl, h with
  | [], _, _ => exact ⟨by simp, trivial⟩
  | [x], _, h => exact h x (by simp)
  | a :: b :: r, hl, h => exact ⟨hl, smallL_of h⟩
theorem small_rep {h : Hd} {x : Nd} (hx : smallN x) (h1 : h.min ≤ 255) (h2 : h.max = -1 ∨ (h.min ≤ h.max ∧ h.max ≤ 255)) (h0 : 0 ≤ h.min) : smallN (repN h x) := by
  unfold repN
  split
  · exact ⟨by simp, trivial⟩
  · split
    · exact ⟨by simp, hx, trivial⟩
    · refine small_seq (by rw [repL_len]; split <;> omega) fun y hy => ?_
      rcases mem_repL hy with rfl | ⟨c, rfl⟩ | ⟨_, rfl⟩
      · exact hx
      · exact small_opt hx
      · exact small_opt hx
theorem formed_one {h : Hd} {l : List Nd} (hf : formedB h l.length = true) (hk : h.kind = 8) : ∃ x, l = [x] := by
  unfold formedB at hf
  rw [if_neg (by omega), if_neg (by omega), if_neg (by omega), if_neg (by omega), if_pos hk] at hf
  simp only [Bool.and_eq_true, Bool.or_eq_true, decide_eq_true_eq] at hf
  have hl := hf.1.1.1.2
  match l, hl with
  | [x], _ => exact ⟨x, rfl⟩
mutual
theorem small_exp : ∀ (n : Nd), smallN n → formB n = true → smallN (expN n)
  | .mk h subs, hs, hf => by
    rw [formB, Bool.and_eq_true] at hf
    have hl := small_expL subs hs.2 hf.2
    unfold expN
    split
    · rename_i hk
      obtain ⟨r1, r2, r3⟩ := formed_rep hf.1 hk
      obtain ⟨x, rfl⟩ := formed_one hf.1 hk
      refine small_rep ?_ r2 r3 r1
      rw [expL] at hl ⊢
      exact hl.1
    · refine ⟨?_, hl⟩
      rw [expL_map, List.length_map]
      exact hs.1
theorem small_expL : ∀ (l : List Nd), smallL l → formL l = true → smallL (expL l)
  | [], _, _ => by rw [expL]; trivial
  | n :: r, hs, hf => by
    rw [formL, Bool.and_eq_true] at hf
    rw [expL]
    exact ⟨small_exp n hs.1 hf.1, small_expL r hs.2 hf.2⟩
end

/-! ### how many nodes -/
mutual
def nodesN : Nd → Int
  | .mk _ subs => 1 + nodesL subs
def nodesL : List Nd → Int
  | [] => 0
  | n :: r => nodesN n + nodesL r
end
mutual
theorem nodesN_pos : ∀ n, 1 ≤ nodesN n
  | .mk _ subs => by have := nodesL_pos subs; rw [nodesN]; omega
theorem nodesL_pos : ∀ l, 0 ≤ nodesL l
  | [] => by rw [nodesL]; omega
  | n :: r => by have := nodesN_pos n; have := nodesL_pos r; rw [nodesL]; omega
end
theorem nodesL_app : ∀ a b, nodesL (a ++ b) = nodesL a + nodesL b
  | [], b => by rw [nodesL]; simp
  | n :: a, b => by
    show nodesL (n :: (a ++ b)) = _
    rw [nodesL, nodesL, nodesL_app a b]
    omega
theorem nodesL_len : ∀ l, (l.length : Int) ≤ nodesL l
  | [] => by rw [nodesL]; simp
  | n :: r => by have := nodesN_pos n; have := nodesL_len r; rw [nodesL]; simp; omega
theorem nodesL_rep (x : Nd) : ∀ m : Nat, nodesL (List.replicate m x) = m * nodesN x
  | 0 => by rw [List.replicate_zero, nodesL]; simp
  | m + 1 => by
    rw [List.replicate_succ, nodesL, nodesL_rep x m]
    push_cast
    rw [Int.add_mul]
    omega
theorem nodesL_opts (x : Nd) : ∀ (b : Bool) (m : Nat), nodesL (optsL x b m) = m * (1 + nodesN x)
  | _, 0 => by rw [optsL, nodesL]; simp
  | b, m + 1 => by
    rw [optsL, nodesL, nodesL_opts x true m, optN, nodesN, nodesL, nodesL]
    push_cast
    rw [Int.add_mul]
    omega
theorem nodes_seq {l : List Nd} (h : l.length ≠ 1) : nodesN (seqN l) = 1 + nodesL l := by
  match l, h with
  | [], _ => rw [seqN, nodesN]
  | [x], h => exact absurd rfl h
  | a :: b :: r, _ => rw [seqN, nodesN]
theorem nodes_rep {h : Hd} {x : Nd} (h0 : 0 ≤ h.min) (h2 : h.max = -1 ∨ h.min ≤ h.max) : nodesN (repN h x) = if h.max = 0 then 1 else roundsZ h (nodesN x) := by
  unfold repN roundsZ
  by_cases a0 : h.max = 0
  · rw [if_pos a0, if_pos a0, nodesN, nodesL]; omega
  rw [if_neg a0, if_neg a0]
  by_cases a1 : h.min = 1 ∧ h.max = 1
  · rw [if_neg (by omega), if_pos a1]
    have e : repL h x = [x] := by
      unfold repL
      rw [a1.1, a1.2]
      rfl
    rw [e, seqN]
  rw [if_neg a1]
  by_cases a2 : h.min = 0 ∧ (h.max = 1 ∨ h.max = -1)
  · rw [if_pos a2, if_pos a2, nodesN, nodesL, nodesL]
    omega
  rw [if_neg a2, if_neg a2, nodes_seq (by rw [repL_len]; split <;> omega)]
  unfold repL
  rw [nodesL_app, nodesL_app, nodesL_rep, nodesL_opts]
  have em : ((h.min.toNat : Nat) : Int) = h.min := Int.toNat_of_nonneg h0
  rw [em]
  by_cases a3 : h.max = -1
  · rw [if_pos a3, if_pos a3]
    have e : (h.max - h.min).toNat = 0 := by omega
    rw [e, nodesL, nodesL, optN, nodesN, nodesL, nodesL]
    simp
    omega
  · rw [if_neg a3, if_neg a3, nodesL]
    have e : (((h.max - h.min).toNat : Nat) : Int) = h.max - h.min := Int.toNat_of_nonneg (by omega)
    rw [e]
    omega
theorem rounds_mono {h : Hd} {a b : Int} (h0 : 0 ≤ h.min) (h2 : h.max = -1 ∨ h.min ≤ h.max) (hab : a ≤ b) : roundsZ h a ≤ roundsZ h b := by
  have m1 : h.min * a ≤ h.min * b := Int.mul_le_mul_of_nonneg_left hab h0
  unfold roundsZ
  split
  · exact hab
  · split
    · omega
    · split
      · omega
      · have m3 : (h.max - h.min) * (1 + a) ≤ (h.max - h.min) * (1 + b) := Int.mul_le_mul_of_nonneg_left (by omega) (by omega)
        omega
theorem rounds_ge {h : Hd} {a : Int} (h0 : 0 ≤ h.min) (h2 : h.max = -1 ∨ h.min ≤ h.max) (hm : h.max ≠ 0) (ha : 0 ≤ a) : a ≤ roundsZ h a := by
  unfold roundsZ
  split
  · omega
  · split
    · omega
    · split
      · have m1 : 0 ≤ h.min * a := Int.mul_nonneg h0 ha
        omega
      · by_cases hz : h.min = 0
        · have m3 : 1 * (1 + a) ≤ (h.max - h.min) * (1 + a) := Int.mul_le_mul_of_nonneg_right (by omega) (by omega)
          rw [hz] at m3 ⊢
          omega
        · have m1 : 1 * a ≤ h.min * a := Int.mul_le_mul_of_nonneg_right (by omega) ha
          have m3 : 0 ≤ (h.max - h.min) * (1 + a) := Int.mul_nonneg (by omega) (by omega)
          omega
mutual
theorem size_nodes : ∀ (n : Nd), formB n = true → sizeN n = Min.min (nodesN (expN n)) 2001
  | .mk h subs, hf => by
    rw [formB, Bool.and_eq_true] at hf
    have hl := size_nodesL subs 0 hf.2 (by omega)
    rw [show Min.min (0 : Int) 2001 = 0 by decide] at hl
    have hp := nodesL_pos (expL subs)
    unfold sizeN expN
    by_cases hk : h.kind = 8
    · obtain ⟨r1, r2, r3⟩ := formed_rep hf.1 hk
      obtain ⟨x, rfl⟩ := formed_one hf.1 hk
      have r4 : h.max = -1 ∨ h.min ≤ h.max := r3.imp id (·.1)
      rw [if_pos hk, if_pos hk, nodes_rep r1 r4]
      rw [expL, expL, nodesL, nodesL] at hl
      rw [expL, headN]
      have hpx := nodesN_pos (expN x)
      by_cases hm : h.max = 0
      · rw [if_pos ⟨hk, hm⟩, if_pos hm]; omega
      · rw [if_neg (by omega), if_neg hm, hl]
        rcases Int.le_total (nodesN (expN x)) 2001 with hc | hc
        · have e : Min.min (0 + (nodesN (expN x) + 0)) 2001 = nodesN (expN x) := by omega
          rw [e]
        · have e : Min.min (0 + (nodesN (expN x) + 0)) 2001 = 2001 := by omega
          rw [e]
          have h1 := rounds_ge r1 r4 hm (a := 2001) (by omega)
          have h2 := rounds_mono r1 r4 hc
          omega
    · rw [if_neg (by omega), if_neg hk, if_neg hk, nodesN, hl]
      omega
theorem size_nodesL : ∀ (l : List Nd) (a : Int), formL l = true → 0 ≤ a → sizeA (Min.min a 2001) l = Min.min (a + nodesL (expL l)) 2001
  | [], a, _, _ => by rw [sizeA, expL, nodesL]; omega
  | n :: r, a, hf, ha => by
    rw [formL, Bool.and_eq_true] at hf
    have h1 := size_nodes n hf.1
    have hp := nodesN_pos (expN n)
    have h2 := size_nodesL r (a + nodesN (expN n)) hf.2 (by omega)
    rw [sizeA, expL, nodesL, h1]
    have e : Min.min (Min.min a 2001 + Min.min (nodesN (expN n)) 2001) 2001 = Min.min (a + nodesN (expN n)) 2001 := by omega
    rw [e, h2]
    omega
end


/-! ### the expansion is right, plain, no deeper; a plain tree is its own -/
def onceB (h : Hd) : Bool := !(decide (h.kind = 8) && (decide (h.min ≠ 0) || (decide (h.max ≠ 1) && decide (h.max ≠ -1))))
mutual
def plainN : Nd → Bool
  | .mk h subs => onceB h && plainL subs
def plainL : List Nd → Bool
  | [] => true
  | n :: r => plainN n && plainL r
end
theorem formL_of : ∀ {l : List Nd}, (∀ n ∈ l, formB n = true) → formL l = true
  | [], _ => by rw [formL]
  | a :: r, h => by rw [formL, h a (by simp), formL_of fun n hn => h n (by simp [hn])]; rfl
theorem plainL_of : ∀ {l : List Nd}, (∀ n ∈ l, plainN n = true) → plainL l = true
  | [], _ => by rw [plainL]
  | a :: r, h => by rw [plainL, h a (by simp), plainL_of fun n hn => h n (by simp [hn])]; rfl
theorem zeroS_no : zeroS noS = true := by
  unfold zeroS noS
  rw [wd_none, wd_none, wd_none, wd_none]
  rfl
theorem formB_opt {mx : Int} {b : Bool} {x : Nd} (hm : mx = 1 ∨ mx = -1) (h : formB x = true) : formB (optN mx b x) = true := by
  rw [optN, formB, formL, formL, h]
  rcases hm with rfl | rfl <;> simp [formedB, zeroS_no]
theorem formB_empty : formB (.mk (hdV 1) []) = true := by
  rw [formB, formL]
  simp [formedB, plainB, hdV, zeroS_no]
theorem formB_seq {l : List Nd} (h : ∀ n ∈ l, formB n = true) : formB (seqN l) = true := by
  match l, h with
  | [], _ => exact formB_empty
  | [x], h => exact h x (by simp)
  | a :: b :: r, h =>
    rw [seqN, formB, formL_of h]
    simp [formedB, plainB, hdV, zeroS_no]
theorem formB_rep {h : Hd} {x : Nd} (hf : formedB h 1 = true) (hx : formB x = true) : formB (repN h x) = true := by
  unfold repN
  split
  · exact formB_empty
  · split
    · rw [formB, formL, formL, hx]
      simpa using hf
    · refine formB_seq fun y hy => ?_
      rcases mem_repL hy with rfl | ⟨c, rfl⟩ | ⟨_, rfl⟩
      · exact hx
      · exact formB_opt (.inl rfl) hx
      · exact formB_opt (.inr rfl) hx
mutual
theorem form_exp : ∀ (n : Nd), formB n = true → formB (expN n) = true
  | .mk h subs, hf => by
    rw [formB, Bool.and_eq_true] at hf
    have hl := form_expL subs hf.2
    unfold expN
    split
    · rename_i hk
      obtain ⟨x, rfl⟩ := formed_one hf.1 hk
      rw [expL, formL, Bool.and_eq_true] at hl
      rw [expL]
      exact formB_rep hf.1 hl.1
    · rw [formB, expL_map, List.length_map, hf.1, ← expL_map, hl]
      rfl
theorem form_expL : ∀ (l : List Nd), formL l = true → formL (expL l) = true
  | [], _ => by rw [expL, formL]
  | n :: r, hf => by
    rw [formL, Bool.and_eq_true] at hf
    rw [expL, formL, form_exp n hf.1, form_expL r hf.2]
    rfl
end
theorem plain_opt {mx : Int} {b : Bool} {x : Nd} (hm : mx = 1 ∨ mx = -1) (h : plainN x = true) : plainN (optN mx b x) = true := by
  rw [optN, plainN, plainL, plainL, h]
  rcases hm with rfl | rfl <;> simp [onceB]
theorem plain_seq {l : List Nd} (h : ∀ n ∈ l, plainN n = true) : plainN (seqN l) = true := by
  match l, h with
  | [], _ => rw [seqN, plainN, plainL]; simp [onceB, hdV]
  | [x], h => exact h x (by simp)
  | a :: b :: r, h =>
    rw [seqN, plainN, plainL_of h]
    simp [onceB, hdV]
theorem plain_rep {h : Hd} {x : Nd} (hx : plainN x = true) : plainN (repN h x) = true := by
  unfold repN
  split
  · rw [plainN, plainL]; simp [onceB, hdV]
  · split
    · rename_i hm
      rw [plainN, plainL, plainL, hx]
      rcases hm.2 with h1 | h1 <;> simp [onceB, hm.1, h1]
    · refine plain_seq fun y hy => ?_
      rcases mem_repL hy with rfl | ⟨c, rfl⟩ | ⟨_, rfl⟩
      · exact hx
      · exact plain_opt (.inl rfl) hx
      · exact plain_opt (.inr rfl) hx
mutual
theorem plain_exp : ∀ (n : Nd), formB n = true → plainN (expN n) = true
  | .mk h subs, hf => by
    rw [formB, Bool.and_eq_true] at hf
    have hl := plain_expL subs hf.2
    unfold expN
    split
    · rename_i hk
      obtain ⟨x, rfl⟩ := formed_one hf.1 hk
      rw [expL, plainL, Bool.and_eq_true] at hl
      rw [expL]
      exact plain_rep hl.1
    · rename_i hk
      rw [plainN, hl]
      simp [onceB, hk]
theorem plain_expL : ∀ (l : List Nd), formL l = true → plainL (expL l) = true
  | [], _ => by rw [expL, plainL]
  | n :: r, hf => by
    rw [formL, Bool.and_eq_true] at hf
    rw [expL, plainL, plain_exp n hf.1, plain_expL r hf.2]
    rfl
end
mutual
theorem exp_plain : ∀ (n : Nd), formB n = true → plainN n = true → expN n = n
  | .mk h subs, hf, hp => by
    rw [formB, Bool.and_eq_true] at hf
    rw [plainN, Bool.and_eq_true] at hp
    have hl := exp_plainL subs hf.2 hp.2
    unfold expN
    rw [hl]
    split
    · rename_i hk
      obtain ⟨x, rfl⟩ := formed_one hf.1 hk
      have h1 : h.min = 0 ∧ (h.max = 1 ∨ h.max = -1) := by
        have h2 := hp.1
        simp [onceB, hk] at h2
        omega
      unfold repN
      rw [if_neg (by omega), if_pos (by omega)]
      rfl
    · rfl
theorem exp_plainL : ∀ (l : List Nd), formL l = true → plainL l = true → expL l = l
  | [], _, _ => by rw [expL]
  | n :: r, hf, hp => by
    rw [formL, Bool.and_eq_true] at hf
    rw [plainL, Bool.and_eq_true] at hp
    rw [expL, exp_plain n hf.1 hp.1, exp_plainL r hf.2 hp.2]
end
theorem depthA_le {d : Int} : ∀ {l : List Nd} {a : Int}, (∀ n ∈ l, depthN n ≤ d) → a ≤ d → depthA a l ≤ d
  | [], a, _, ha => by rw [depthA]; exact ha
  | n :: r, a, h, ha => by
    have := h n (by simp)
    rw [depthA]
    exact depthA_le (fun m hm => h m (by simp [hm])) (by omega)
theorem depthA_ge : ∀ (l : List Nd) (a : Int), a ≤ depthA a l
  | [], a => by rw [depthA]; omega
  | n :: r, a => by
    have := depthA_ge r (Max.max a (depthN n))
    rw [depthA]
    omega
theorem depth_opt {mx : Int} {b : Bool} {x : Nd} (hm : mx = 1 ∨ mx = -1) : depthN (optN mx b x) = Max.max 0 (depthN x) + 1 := by
  rw [optN, depthN, depthA, depthA]
  rcases hm with rfl | rfl <;> simp [deepB]
theorem depth_seq {l : List Nd} {d : Int} (hd : 0 ≤ d) (h : ∀ n ∈ l, depthN n ≤ d) : depthN (seqN l) ≤ d + 1 := by
  match l, h with
  | [], _ => rw [seqN, depthN, depthA]; simp [deepB]; omega
  | [x], h => have := h x (by simp); rw [seqN]; omega
  | a :: b :: r, h =>
    have := depthA_le h hd
    rw [seqN, depthN]
    have e : (if deepB (hdV 5) (a :: b :: r).length = true then (1 : Int) else 0) = 0 := by simp [deepB, hdV]
    rw [e]
    omega
mutual
theorem depth_exp : ∀ (n : Nd), formB n = true → depthN (expN n) ≤ depthN n
  | .mk h subs, hf => by
    rw [formB, Bool.and_eq_true] at hf
    have hl := depth_expL subs 0 0 hf.2 (by omega)
    unfold expN
    split
    · rename_i hk
      obtain ⟨x, rfl⟩ := formed_one hf.1 hk
      rw [expL, headN]
      rw [expL, expL, depthA, depthA, depthA, depthA] at hl
      rw [depthN, depthA, depthA]
      unfold repN
      by_cases a0 : h.max = 0
      · rw [if_pos a0, depthN, depthA]
        have e : (if deepB (hdV 1) ([] : List Nd).length = true then (1 : Int) else 0) = 0 := by simp [deepB]
        rw [e]
        split <;> omega
      rw [if_neg a0]
      by_cases a2 : h.min = 0 ∧ (h.max = 1 ∨ h.max = -1)
      · rw [if_pos a2, depthN, depthA, depthA]
        exact Int.add_le_add_right (Int.add_le_add_right hl _) 1
      rw [if_neg a2]
      have hd : deepB h [x].length = true := by
        simp [deepB, hk]
        omega
      rw [if_pos hd]
      have := depth_seq (l := repL h (expN x)) (d := Max.max 0 (depthN (expN x)) + 1) (by omega) (fun y hy => by
        rcases mem_repL hy with rfl | ⟨c, rfl⟩ | ⟨_, rfl⟩
        · omega
        · rw [depth_opt (.inl rfl)]; omega
        · rw [depth_opt (.inr rfl)]; omega)
      omega
    · rw [depthN, depthN, expL_map, List.length_map, ← expL_map]
      omega
theorem depth_expL : ∀ (l : List Nd) (a b : Int), formL l = true → a ≤ b → depthA a (expL l) ≤ depthA b l
  | [], a, b, _, h => by rw [expL, depthA, depthA]; exact h
  | n :: r, a, b, hf, h => by
    rw [formL, Bool.and_eq_true] at hf
    have := depth_exp n hf.1
    rw [expL, depthA, depthA]
    exact depth_expL r _ _ hf.2 (by omega)
end

end Go.Proofs.YtgfknlkpdiejgaaDoor
