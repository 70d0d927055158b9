/- How many nodes a tree has, as it stands; the normal form has no more. No program. -/
import Derived.Test.YtkcgbdoplhgbmaaDoorNrmQ
namespace Go.Proofs.YtkcgbdoplhgbmaaDoor
open Go Go.RowKit

mutual
def cntN : Nd → Nat
  | .mk _ s => 1 + cntL s
def cntL : List Nd → Nat
  | [] => 0
  | n :: r => cntN n + cntL r
end
theorem cntL_app : ∀ (a b : List Nd), cntL (a ++ b) = cntL a + cntL b
  | [], b => by simp [cntL]
  | n :: a, b => by
    show cntL (n :: (a ++ b)) = _
    rw [cntL, cntL, cntL_app a b]; omega
theorem cnt_pos (n : Nd) : 1 ≤ cntN n := by obtain ⟨h, s⟩ := n; rw [cntN]; omega
theorem cntL_len : ∀ (l : List Nd), l.length ≤ cntL l
  | [] => by simp
  | n :: r => by have := cntL_len r; have := cnt_pos n; rw [cntL, List.length_cons]; omega
theorem cntL_mem : ∀ {l : List Nd} {n : Nd}, n ∈ l → cntN n ≤ cntL l
  | m :: r, n, h => by
    rw [cntL]
    rcases List.mem_cons.1 h with rfl | h
    · omega
    · have := cntL_mem h; omega
theorem cntL_take (l : List Nd) (k : Nat) : cntL (l.take k) ≤ cntL l := by
  conv => rhs; rw [← List.take_append_drop k l, cntL_app]
  omega
theorem cnt_sub {h : Hd} {l : List Nd} {n : Nd} (hn : n ∈ l) : cntN n < cntN (.mk h l) := by have := cntL_mem hn; rw [cntN]; omega
mutual
theorem left_cnt : ∀ (n : Nd) (m : Int), 0 ≤ leftN n m → leftN n m = m - cntN n
  | .mk _ s, m, h => by
    rw [leftN] at h ⊢
    rw [left_cntL s (m - 1) h, cntN]; omega
theorem left_cntL : ∀ (l : List Nd) (m : Int), 0 ≤ leftL l m → leftL l m = m - cntL l
  | [], m, _ => by rw [leftL, cntL]; omega
  | n :: r, m, h => by
    by_cases h0 : 0 ≤ m
    · rw [leftL, if_pos h0] at h ⊢
      have h2 : 0 ≤ leftN n m := by
        rcases Int.lt_or_le (leftN n m) 0 with h3 | h3
        · rw [leftL_neg _ _ h3] at h; omega
        · exact h3
      rw [left_cntL r _ h, left_cnt n m h2, cntL]; omega
    · rw [leftL_neg _ _ (by omega)] at h; omega
end
mutual
theorem cnt_small : ∀ (n : Nd), cntN n ≤ 1000000 → smallN n
  | .mk _ s, h => by
    rw [cntN] at h
    exact ⟨by have := cntL_len s; omega, cnt_smallL s (by omega)⟩
theorem cnt_smallL : ∀ (l : List Nd), cntL l ≤ 1000000 → smallL l
  | [], _ => trivial
  | n :: r, h => by
    rw [cntL] at h
    exact ⟨cnt_small n (by omega), cnt_smallL r (by omega)⟩
end
theorem cnt_seqN (l : List Nd) : cntN (seqN l) ≤ 1 + cntL l := by
  match l with
  | [] => simp [seqN, cntN, cntL]
  | [x] => simp [seqN, cntL]
  | a :: b :: r => simp [seqN, cntN]
theorem cnt_altN (l : List Nd) : cntN (altN l) ≤ 1 + cntL l := by
  match l with
  | [] => simp [altN, cntN, cntL]
  | [x] => simp [altN, cntL]
  | a :: b :: r => simp [altN, cntN]
theorem cntL_one (n : Nd) : cntL [n] = cntN n := by rw [cntL, cntL]; omega
theorem cnt_seqK : ∀ (l out : List Nd), cntL (l.foldl seqAdd out) ≤ cntL out + cntL l
  | [], out => by simp [cntL]
  | s :: l, out => by
    rw [List.foldl_cons, cntL]
    have ih := cnt_seqK l (seqAdd out s)
    have : cntL (seqAdd out s) ≤ cntL out + cntN s := by
      unfold seqAdd
      split
      · omega
      split
      · omega
      · rw [cntL_app, cntL_one]; omega
    omega
theorem cnt_set (n : Nd) (p : Nat → Bool) : cntN (setOf n p) = cntN n := by
  obtain ⟨h, s⟩ := n
  show cntN (.mk _ s) = _
  rw [cntN, cntN]
theorem cnt_join (p : Nat → Bool) : ∀ (out : List Nd), cntL (joinAt out p) = cntL out
  | [] => rfl
  | n :: r => by
    show cntL ((if n.h.kind = 2 then setOf n (orS n.h.set p) else n) :: joinAt r p) = _
    rw [cntL, cntL, cnt_join p r]
    split
    · rw [cnt_set]
    · rfl
theorem cnt_altK : ∀ (l out : List Nd), cntL (l.foldl altAdd out) ≤ cntL out + cntL l
  | [], out => by simp [cntL]
  | s :: l, out => by
    rw [List.foldl_cons, cntL]
    have ih := cnt_altK l (altAdd out s)
    have : cntL (altAdd out s) ≤ cntL out + cntN s := by
      unfold altAdd
      split
      · omega
      split
      · rw [cnt_join]; omega
      split
      · omega
      · rw [cntL_app, cntL_one]; omega
    omega
theorem cnt_seqO (l : List Nd) : cntN (seqO l) ≤ 1 + cntL l := by
  unfold seqO
  split
  · rename_i s hf
    have := cntL_mem (List.mem_of_find?_eq_some hf)
    omega
  · have h1 := cnt_seqN (seqK l)
    have h2 := cnt_seqK l []
    unfold seqK at *
    simp only [cntL] at h2
    omega
theorem cnt_altO (l : List Nd) : cntN (altO l) ≤ 1 + cntL l := by
  unfold altO
  have h1 := cnt_altN (l.foldl altAdd [])
  have h2 := cnt_altK l []
  simp only [cntL] at h2
  omega
theorem cnt_parts (k : Int) (s : Nd) : cntL (partsN k s) ≤ cntN s := by
  unfold partsN
  split
  · obtain ⟨h, l⟩ := s; show cntL l ≤ _; rw [cntN]; omega
  · rw [cntL_one]; omega
theorem cnt_flat (k : Int) : ∀ (l : List Nd), (∀ n ∈ l, cntN (simpN n) ≤ cntN n) → cntL (flatL k l) ≤ cntL l
  | [], _ => by rw [flatL]; omega
  | n :: r, h => by
    rw [flatL, cntL_app, cntL]
    have h1 := cnt_parts k (simpN n)
    have h2 := h n (by simp)
    have h3 := cnt_flat k r (fun m hm => h m (List.mem_cons_of_mem _ hm))
    omega
theorem cnt_repO (h : Hd) (x : Nd) : cntN (repO h x) ≤ 1 + cntN x := by
  have := cnt_pos x
  unfold repO
  split
  · simp [cntN, cntL]
  split
  · split
    · simp [cntN, cntL]
    · omega
  split
  · omega
  · rw [cntN, cntL_one]; omega
theorem cnt_simp : ∀ (n : Nd), okN n → cntN (simpN n) ≤ cntN n := by
  refine Nd.ind fun h subs ih hok => ?_
  obtain ⟨f1, f2⟩ := form_at hok.1
  obtain ⟨c1, c2⟩ := cl_at hok.2
  have hs : ∀ n ∈ subs, cntN (simpN n) ≤ cntN n := fun n hn => ih n hn ⟨f2 n hn, c2 n hn⟩
  rw [simpN, cntN]
  split
  · have := cnt_seqO (flatL 5 subs); have := cnt_flat 5 subs hs; omega
  split
  · have := cnt_altO (flatL 6 subs); have := cnt_flat 6 subs hs; omega
  split
  · rename_i k
    have hl := formed_single f1 (.inr k)
    match subs, hl, hs with
    | [x], _, hs =>
      rw [simpL, simpL, cntL_one]
      have := cnt_repO h (simpN x)
      have := hs x (by simp)
      show cntN (repO h (simpN x)) ≤ _
      omega
  · rw [cntN]; omega
theorem cntL_norm : ∀ (l : List Nd), (∀ n ∈ l, cntN (normN n) ≤ cntN n) → cntL (normL l) ≤ cntL l
  | [], _ => by rw [normL]; omega
  | n :: r, h => by
    rw [normL, cntL, cntL]
    have h2 := h n (by simp)
    have h3 := cntL_norm r (fun m hm => h m (List.mem_cons_of_mem _ hm))
    omega
theorem cnt_norm : ∀ (n : Nd), okN n → cntN (normN n) ≤ cntN n := by
  refine Nd.ind fun h subs ih hok => ?_
  rw [normN]
  split
  · exact cnt_simp _ hok
  · obtain ⟨f1, f2⟩ := form_at hok.1
    obtain ⟨c1, c2⟩ := cl_at hok.2
    rw [cntN, cntN]
    have := cntL_norm subs (fun n hn => ih n hn ⟨f2 n hn, c2 n hn⟩)
    omega
/-- A row of free trees: flat. -/
theorem free_flat (k : Int) {l : List Nd} (h : ∀ n ∈ l, okN n ∧ freeN n = true) : ∀ n ∈ flatL k l, okN n := by
  intro n hn
  obtain ⟨m, hm, hn⟩ := (flatL_mem k l n).1 hn
  exact ok_parts (ok_simp m (h m hm).1) n hn

end Go.Proofs.YtkcgbdoplhgbmaaDoor
