/- The normal form is no greater and no deeper than the tree, and has its groups, in plain words. No program. -/
import Derived.Test.YtkcgbdoplhgbmaaDoorNrmQ
namespace Go.Proofs.YtkcgbdoplhgbmaaDoor
open Go Go.RowKit

/-! ### depth -/
theorem dpA_le : ∀ (l : List Nd) (a d : Int), depthA a l ≤ d ↔ a ≤ d ∧ ∀ n ∈ l, depthN n ≤ d
  | [], a, d => by rw [depthA]; simp
  | n :: r, a, d => by
    rw [depthA, dpA_le r]
    constructor
    · rintro ⟨h1, h2⟩
      refine ⟨by omega, fun m hm => ?_⟩
      rcases List.mem_cons.1 hm with rfl | hm
      · omega
      · exact h2 m hm
    · rintro ⟨h1, h2⟩
      have := h2 n (by simp)
      exact ⟨by omega, fun m hm => h2 m (List.mem_cons_of_mem _ hm)⟩
theorem depth_pos (n : Nd) : 1 ≤ depthN n := by
  obtain ⟨h, l⟩ := n
  have := ((dpA_le l 0 (depthA 0 l)).1 (Int.le_refl _)).1
  rw [depthN]
  split <;> omega
theorem depth_sub {h : Hd} {l : List Nd} {n : Nd} (hn : n ∈ l) : depthN n < depthN (.mk h l) := by
  have := ((dpA_le l 0 (depthA 0 l)).1 (Int.le_refl _)).2 n hn
  rw [depthN]
  split <;> omega
theorem deep_no {h : Hd} {len : Nat} (hk : h.kind ≠ 8) : deepB h len = false := by unfold deepB; rw [decide_eq_false hk]; rfl
theorem depth_row {h : Hd} {l : List Nd} {d : Int} (hk : h.kind ≠ 8) (h0 : 0 ≤ d) (hl : ∀ n ∈ l, depthN n ≤ d) : depthN (.mk h l) ≤ d + 1 := by
  have := (dpA_le l 0 d).2 ⟨h0, hl⟩
  rw [depthN, deep_no hk]
  simp only [Bool.false_eq_true, if_false]
  omega
theorem depth_seqN {l : List Nd} {d : Int} (h0 : 0 ≤ d) (hl : ∀ n ∈ l, depthN n ≤ d) : depthN (seqN l) ≤ d + 1 := by
  match l, hl with
  | [], _ => exact depth_row (by decide) h0 (fun _ h => by cases h)
  | [x], hl => have := hl x (by simp); show depthN x ≤ _; omega
  | a :: b :: r, hl => exact depth_row (by decide) h0 hl
theorem depth_altN {l : List Nd} {d : Int} (h0 : 0 ≤ d) (hl : ∀ n ∈ l, depthN n ≤ d) : depthN (altN l) ≤ d + 1 := by
  match l, hl with
  | [], _ => exact depth_row (by decide) h0 (fun _ h => by cases h)
  | [x], hl => have := hl x (by simp); show depthN x ≤ _; omega
  | a :: b :: r, hl => exact depth_row (by decide) h0 hl
theorem depth_set (n : Nd) (p : Nat → Bool) : depthN (setOf n p) = depthN n := by
  obtain ⟨h, l⟩ := n
  unfold setOf
  simp only [Nd.h, Nd.subs]
  rw [depthN, depthN]
  rfl
theorem altK_depth (d : Int) : ∀ (l out : List Nd), (∀ n ∈ l, depthN n ≤ d) → (∀ n ∈ out, depthN n ≤ d) → ∀ n ∈ l.foldl altAdd out, depthN n ≤ d
  | [], out, _, h => h
  | s :: l, out, hl, ho => by
    rw [List.foldl_cons]
    refine altK_depth d l _ (fun n hn => hl n (List.mem_cons_of_mem _ hn)) (fun n hn => ?_)
    unfold altAdd at hn
    split at hn
    · exact ho n hn
    split at hn
    · unfold joinAt at hn
      obtain ⟨o, h1, rfl⟩ := List.mem_map.1 hn
      split
      · rw [depth_set]; exact ho o h1
      · exact ho o h1
    split at hn
    · exact ho n hn
    · rcases List.mem_append.1 hn with hn | hn
      · exact ho n hn
      · rw [List.mem_singleton.1 hn]; exact hl s (by simp)
theorem depth_parts {k : Int} {s n : Nd} (hn : n ∈ partsN k s) : depthN n ≤ depthN s := by
  unfold partsN at hn
  split at hn
  · obtain ⟨h, l⟩ := s
    exact Int.le_of_lt (depth_sub hn)
  · rw [List.mem_singleton.1 hn]; exact Int.le_refl _
theorem simp_depth : ∀ (n : Nd), formB n = true → depthN (simpN n) ≤ depthN n := by
  refine Nd.ind fun h subs ih hf => ?_
  obtain ⟨f1, f2⟩ := form_at hf
  have hs : ∀ n ∈ subs, depthN (simpN n) ≤ depthN n := fun n hn => ih n hn (f2 n hn)
  obtain ⟨d, hd⟩ : ∃ d, d = depthA 0 subs := ⟨_, rfl⟩
  have hd0 := (dpA_le subs 0 d).1 (by omega)
  have hfl : ∀ k, ∀ n ∈ flatL k subs, depthN n ≤ d := fun k n hn => by
    obtain ⟨m, hm, hn⟩ := (flatL_mem k subs n).1 hn
    have h1 := depth_parts hn
    have h2 := hs m hm
    have h3 := hd0.2 m hm
    omega
  have hrow : h.kind ≠ 8 → depthN (.mk h subs) = d + 1 := fun hk => by rw [depthN, deep_no hk, hd]; simp
  rw [simpN]
  split
  · rename_i k
    rw [hrow (by omega)]
    unfold seqO
    cases hq : (flatL 5 subs).find? nthB with
    | some s => have := hfl 5 s (List.mem_of_find?_eq_some hq); simp only; omega
    | none =>
      refine depth_seqN hd0.1 fun n hn => ?_
      rcases seqK_mem _ [] n hn with hn | hn
      · cases hn
      · exact hfl 5 n hn
  split
  · rename_i k
    rw [hrow (by omega)]
    exact depth_altN hd0.1 (altK_depth d _ [] (hfl 6) (fun _ h => by cases h))
  split
  · rename_i k
    have hp := depth_pos (.mk h subs)
    have := formed_single f1 (.inr k)
    match subs, this with
    | [x], _ =>
      rw [simpL, simpL]
      show depthN (repO h (simpN x)) ≤ _
      have hx := hs x (by simp)
      have hlt : depthN x < depthN (.mk h [x]) := depth_sub (by simp)
      have h1 : depthN (.mk (hdV 1) []) = 1 := by rw [depthN, depthA]; rfl
      unfold repO
      split
      · omega
      split
      · split <;> omega
      split
      · omega
      · rw [depthN, depthN, depthA, depthA, depthA, depthA]
        have e : deepB ⟨8, noS, 0, h.min, h.max, false⟩ [simpN x].length = deepB h [x].length := by unfold deepB; simp [k]
        rw [e]
        split <;> omega
  · exact Int.le_refl _
theorem norm_depth : ∀ (n : Nd), formB n = true → depthN (normN n) ≤ depthN n := by
  refine Nd.ind fun h subs ih hf => ?_
  rw [normN]
  split
  · exact simp_depth _ hf
  · obtain ⟨f1, f2⟩ := form_at hf
    rw [normL_map, depthN, depthN, List.length_map]
    have h0 := (dpA_le subs 0 (depthA 0 subs)).1 (Int.le_refl _)
    have := (dpA_le (subs.map normN) 0 (depthA 0 subs)).2 ⟨h0.1, fun n hn => by
      obtain ⟨m, hm, rfl⟩ := List.mem_map.1 hn
      have := ih m hm (f2 m hm)
      have := h0.2 m hm
      omega⟩
    split <;> omega

/-! ### size -/
def sumS : List Nd → Int
  | [] => 0
  | n :: r => sizeN n + sumS r
theorem sumS_app : ∀ (a b : List Nd), sumS (a ++ b) = sumS a + sumS b
  | [], b => by simp [sumS]
  | n :: a, b => by
    show sumS (n :: (a ++ b)) = _
    rw [sumS, sumS, sumS_app a b]
    omega
theorem size_pos : ∀ (n : Nd), formB n = true → 1 ≤ sizeN n ∧ sizeN n ≤ 2001 := by
  refine Nd.ind fun h subs ih hf => ?_
  refine ⟨?_, (sizeN_range _ hf).2⟩
  obtain ⟨f1, f2⟩ := form_at hf
  have hA := sizeA_range subs 0 ((formL_iff subs).2 f2) (by omega) (by omega)
  rw [sizeN]
  split
  · omega
  split
  · rename_i k0 k
    obtain ⟨r1, r2, r3⟩ := formed_rep f1 k
    have := formed_single f1 (.inr k)
    match subs, this with
    | [x], _ =>
      have hx := ih x (by simp) (f2 x (by simp))
      have hs : sizeA 0 [x] = sizeN x := by rw [sizeA, sizeA]; omega
      rw [hs]
      have m1 : 0 ≤ h.min * sizeN x := Int.mul_nonneg r1 (by omega)
      have m2 : 0 ≤ (h.max - h.min) * (1 + sizeN x) ∨ h.max = -1 := by
        rcases r3 with r3 | r3
        · exact .inr r3
        · exact .inl (Int.mul_nonneg (by omega) (by omega))
      unfold roundsZ
      split
      · omega
      split
      · omega
      split
      · omega
      · omega
  · omega
theorem sumS_nonneg : ∀ (l : List Nd), (∀ n ∈ l, formB n = true) → 0 ≤ sumS l
  | [], _ => by rw [sumS]; omega
  | n :: r, h => by
    rw [sumS]
    have := size_pos n (h n (by simp))
    have := sumS_nonneg r (fun m hm => h m (List.mem_cons_of_mem _ hm))
    omega
theorem sizeA_sum : ∀ (l : List Nd) (a : Int), (∀ n ∈ l, formB n = true) → 0 ≤ a → a ≤ 2001 → sizeA a l = Min.min (a + sumS l) 2001
  | [], a, _, h0, h1 => by rw [sizeA, sumS]; omega
  | n :: r, a, h, h0, h1 => by
    have hn := size_pos n (h n (by simp))
    have hr : ∀ m ∈ r, formB m = true := fun m hm => h m (List.mem_cons_of_mem _ hm)
    have := sumS_nonneg r hr
    rw [sizeA, sizeA_sum r _ hr (by omega) (by omega), sumS]
    omega
theorem size_row {h : Hd} {l : List Nd} (hk : h.kind ≠ 8) (hl : ∀ n ∈ l, formB n = true) : sizeN (.mk h l) = Min.min (sumS l + 1) 2001 := by
  have := sumS_nonneg l hl
  rw [sizeN, if_neg (fun h => hk h.1), if_neg hk, sizeA_sum l 0 hl (by omega) (by omega)]
  omega
theorem size_seqN {l : List Nd} (hl : ∀ n ∈ l, formB n = true) : sizeN (seqN l) ≤ Min.min (sumS l + 1) 2001 := by
  match l, hl with
  | [], _ => exact Int.le_of_eq (size_row (by decide) (fun _ h => by cases h))
  | [x], hl =>
    show sizeN x ≤ _
    have := size_pos x (hl x (by simp))
    rw [sumS, sumS]
    omega
  | a :: b :: r, hl => exact Int.le_of_eq (size_row (by decide) hl)
theorem size_altN {l : List Nd} (hl : ∀ n ∈ l, formB n = true) : sizeN (altN l) ≤ Min.min (sumS l + 1) 2001 := by
  match l, hl with
  | [], _ => exact Int.le_of_eq (size_row (by decide) (fun _ h => by cases h))
  | [x], hl =>
    show sizeN x ≤ _
    have := size_pos x (hl x (by simp))
    rw [sumS, sumS]
    omega
  | a :: b :: r, hl => exact Int.le_of_eq (size_row (by decide) hl)
theorem seqK_sum : ∀ (l out : List Nd), (∀ n ∈ l, formB n = true) → sumS (l.foldl seqAdd out) ≤ sumS out + sumS l
  | [], out, _ => by rw [List.foldl_nil, sumS]; omega
  | s :: l, out, h => by
    have hs := size_pos s (h s (by simp))
    have := seqK_sum l (seqAdd out s) (fun m hm => h m (List.mem_cons_of_mem _ hm))
    rw [List.foldl_cons, sumS]
    have : sumS (seqAdd out s) ≤ sumS out + sizeN s := by
      unfold seqAdd
      split
      · omega
      split
      · omega
      · rw [sumS_app, sumS, sumS]; omega
    omega
theorem size_set (n : Nd) (p : Nat → Bool) : sizeN (setOf n p) = sizeN n := by
  obtain ⟨h, l⟩ := n
  unfold setOf
  simp only [Nd.h, Nd.subs]
  rw [sizeN, sizeN]
  rfl
theorem join_sum (p : Nat → Bool) : ∀ (out : List Nd), sumS (joinAt out p) = sumS out
  | [] => rfl
  | o :: out => by
    have ih := join_sum p out
    unfold joinAt at ih ⊢
    rw [List.map_cons, sumS, sumS, ih]
    split
    · rw [size_set]
    · rfl
theorem altK_sum : ∀ (l out : List Nd), (∀ n ∈ l, formB n = true) → sumS (l.foldl altAdd out) ≤ sumS out + sumS l
  | [], out, _ => by rw [List.foldl_nil, sumS]; omega
  | s :: l, out, h => by
    have hs := size_pos s (h s (by simp))
    have := altK_sum l (altAdd out s) (fun m hm => h m (List.mem_cons_of_mem _ hm))
    rw [List.foldl_cons, sumS]
    have : sumS (altAdd out s) ≤ sumS out + sizeN s := by
      unfold altAdd
      split
      · omega
      split
      · rw [join_sum]; omega
      split
      · omega
      · rw [sumS_app, sumS, sumS]; omega
    omega
theorem parts_sum {k : Int} (hk : k ≠ 8) {s : Nd} (hs : formB s = true) : Min.min (sumS (partsN k s)) 2001 ≤ sizeN s := by
  unfold partsN
  split
  · rename_i h
    obtain ⟨hd, l⟩ := s
    simp only [Nd.h] at h
    rw [size_row (by omega) (form_at hs).2]
    simp only [Nd.subs]
    omega
  · rw [sumS, sumS]; omega
theorem flat_sum {k : Int} (hk : k ≠ 8) : ∀ (l : List Nd), (∀ n ∈ l, okN n ∧ sizeN (simpN n) ≤ sizeN n) → Min.min (sumS (flatL k l)) 2001 ≤ Min.min (sumS l) 2001
  | [], _ => by rw [flatL]; exact Int.le_refl _
  | n :: r, h => by
    have h1 := flat_sum hk r (fun m hm => h m (List.mem_cons_of_mem _ hm))
    obtain ⟨h2, h3⟩ := h n (by simp)
    have h4 := parts_sum hk (ok_simp n h2).1
    have h5 : 0 ≤ sumS (partsN k (simpN n)) := sumS_nonneg _ (fun m hm => (ok_parts (ok_simp n h2) m hm).1)
    have h6 : 0 ≤ sumS (flatL k r) := sumS_nonneg _ (fun m hm => by
      obtain ⟨x, hx, hm⟩ := (flatL_mem k r m).1 hm
      exact (ok_parts (ok_simp x (h x (List.mem_cons_of_mem _ hx)).1) m hm).1)
    have h7 := size_pos n h2.1
    have h8 := sumS_nonneg r (fun m hm => (h m (List.mem_cons_of_mem _ hm)).1.1)
    rw [flatL, sumS_app, sumS]
    omega
theorem rnd_mono (h : Hd) {a b : Int} (h0 : 0 ≤ h.min) (h2 : h.max = -1 ∨ h.min ≤ h.max) (hab : a ≤ b) : roundsZ h a ≤ roundsZ h b := by
  have m1 : h.min * a ≤ h.min * b := Int.mul_le_mul_of_nonneg_left hab h0
  unfold roundsZ
  split
  · exact hab
  split
  · omega
  split
  · omega
  · have m2 : (h.max - h.min) * (1 + a) ≤ (h.max - h.min) * (1 + b) := Int.mul_le_mul_of_nonneg_left (by omega) (by omega)
    omega
theorem rnd_ge (h : Hd) {a : Int} (h0 : 0 ≤ h.min) (h2 : h.max = -1 ∨ h.min ≤ h.max) (hm : h.max ≠ 0) (ha : 0 ≤ a) : a ≤ roundsZ h a := by
  unfold roundsZ
  split
  · omega
  split
  · omega
  split
  · have : 0 ≤ h.min * a := Int.mul_nonneg h0 ha
    omega
  · by_cases h1 : 1 ≤ h.min
    · have m1 : 1 * a ≤ h.min * a := Int.mul_le_mul_of_nonneg_right h1 ha
      have m2 : 0 ≤ (h.max - h.min) * (1 + a) := Int.mul_nonneg (by omega) (by omega)
      omega
    · have m1 : 0 ≤ h.min * a := Int.mul_nonneg h0 ha
      have m2 : 1 * (1 + a) ≤ (h.max - h.min) * (1 + a) := Int.mul_le_mul_of_nonneg_right (by omega) (by omega)
      omega
theorem rep_size {h : Hd} {x y : Nd} (hf : formedB h 1 = true) (hk : h.kind = 8) (hx : okN x) (hy : okN y) (hxy : sizeN y ≤ sizeN x) : sizeN (repO h y) ≤ sizeN (.mk h [x]) := by
  have sx := size_pos x hx.1
  have sy := size_pos y hy.1
  have hfx : formB (.mk h [x]) = true := form_mk hf (fun n hn => by rw [List.mem_singleton.1 hn]; exact hx.1)
  have sr := size_pos _ hfx
  obtain ⟨r1, r2, r3⟩ := formed_rep hf hk
  have h1 : sizeN (.mk (hdV 1) []) = 1 := size_row (by decide) (fun _ h => by cases h)
  have e1 : ∀ z, formB z = true → sizeA 0 [z] = sizeN z := fun z hz => by
    have := size_pos z hz
    rw [sizeA, sizeA]; omega
  unfold repO
  by_cases c1 : h.max = 0 ∨ y.h.kind = 1
  · rw [if_pos c1]; omega
  rw [if_neg c1]
  have hm0 : h.max ≠ 0 := fun h => c1 (.inl h)
  have eR : sizeN (.mk h [x]) = Min.min (roundsZ h (sizeN x)) 2001 := by rw [sizeN, if_neg (fun h => hm0 h.2), if_pos hk, e1 x hx.1]
  have g := rnd_ge h r1 (r3.imp id (·.1)) hm0 (show 0 ≤ sizeN x by omega)
  split
  · split
    · omega
    · rw [eR]; omega
  split
  · rw [eR]; omega
  · have eL : sizeN (.mk ⟨8, noS, 0, h.min, h.max, false⟩ [y]) = Min.min (roundsZ h (sizeN y)) 2001 := by
      rw [sizeN, if_neg (fun h => hm0 h.2), if_pos rfl, e1 y hy.1]
      rfl
    have m := rnd_mono h r1 (r3.imp id (·.1)) hxy
    rw [eL, eR]
    omega
theorem simp_size : ∀ (n : Nd), okN n → sizeN (simpN n) ≤ sizeN n := by
  refine Nd.ind fun h subs ih hok => ?_
  obtain ⟨f1, f2⟩ := form_at hok.1
  obtain ⟨c1, c2⟩ := cl_at hok.2
  have hs : ∀ n ∈ subs, okN n ∧ sizeN (simpN n) ≤ sizeN n := fun n hn => ⟨⟨f2 n hn, c2 n hn⟩, ih n hn ⟨f2 n hn, c2 n hn⟩⟩
  have hfl : ∀ k, ∀ n ∈ flatL k subs, okN n := fun k n hn => by
    obtain ⟨m, hm, hn⟩ := (flatL_mem k subs n).1 hn
    exact ok_parts (ok_simp m (hs m hm).1) n hn
  have hsz := size_pos _ hok.1
  rw [simpN]
  split
  · rename_i k
    rw [size_row (by omega) f2]
    have hq := flat_sum (k := 5) (by decide) subs hs
    unfold seqO
    cases hx : (flatL 5 subs).find? nthB with
    | some s =>
      simp only
      have hm := List.mem_of_find?_eq_some hx
      have hn := nth_is (hfl 5 s hm) (List.find?_some hx)
      rw [hn, size_row (by decide) (fun _ h => by cases h), sumS]
      have := sumS_nonneg subs f2
      omega
    | none =>
      simp only
      have h1 := size_seqN (l := seqK (flatL 5 subs)) (fun n hn => by
        rcases seqK_mem _ [] n hn with hn | hn
        · cases hn
        · exact (hfl 5 n hn).1)
      have h2 := seqK_sum (flatL 5 subs) [] (fun n hn => (hfl 5 n hn).1)
      rw [sumS] at h2
      unfold seqK at h1 ⊢
      omega
  split
  · rename_i k
    rw [size_row (by omega) f2]
    have hq := flat_sum (k := 6) (by decide) subs hs
    have h1 := size_altN (l := (flatL 6 subs).foldl altAdd []) (fun n hn => (altK_ok _ [] (hfl 6) (fun _ h => by cases h) n hn).1)
    have h2 := altK_sum (flatL 6 subs) [] (fun n hn => (hfl 6 n hn).1)
    rw [sumS] at h2
    unfold altO
    omega
  split
  · rename_i k
    have := formed_single f1 (.inr k)
    match subs, this, hs, f1 with
    | [x], _, hs, f1 =>
      rw [simpL, simpL]
      exact rep_size f1 k (hs x (by simp)).1 (ok_simp x (hs x (by simp)).1) (hs x (by simp)).2
  · exact Int.le_refl _
theorem sum_norm : ∀ (l : List Nd), (∀ n ∈ l, sizeN (normN n) ≤ sizeN n) → sumS (l.map normN) ≤ sumS l
  | [], _ => Int.le_refl _
  | n :: r, h => by
    have := h n (by simp)
    have := sum_norm r (fun m hm => h m (List.mem_cons_of_mem _ hm))
    rw [List.map_cons, sumS, sumS]
    omega
theorem norm_size : ∀ (n : Nd), okN n → sizeN (normN n) ≤ sizeN n := by
  refine Nd.ind fun h subs ih hok => ?_
  obtain ⟨f1, f2⟩ := form_at hok.1
  obtain ⟨c1, c2⟩ := cl_at hok.2
  have hs : ∀ n ∈ subs, sizeN (normN n) ≤ sizeN n := fun n hn => ih n hn ⟨f2 n hn, c2 n hn⟩
  have hm : ∀ n ∈ subs.map normN, formB n = true := fun n hn => by
    obtain ⟨m, hm, rfl⟩ := List.mem_map.1 hn
    exact (ok_norm m ⟨f2 m hm, c2 m hm⟩).1
  rw [normN]
  split
  · exact simp_size _ hok
  rw [normL_map]
  by_cases k : h.kind = 8
  · by_cases k0 : h.max = 0
    · rw [sizeN, sizeN, if_pos ⟨k, k0⟩, if_pos ⟨k, k0⟩]; exact Int.le_refl _
    · obtain ⟨r1, r2, r3⟩ := formed_rep f1 k
      have hq := sum_norm subs hs
      have := rnd_mono h r1 (r3.imp id (·.1)) (show sizeA 0 (subs.map normN) ≤ sizeA 0 subs by
        rw [sizeA_sum _ 0 hm (by omega) (by omega), sizeA_sum _ 0 f2 (by omega) (by omega)]; omega)
      have e0 : ¬ (h.kind = 8 ∧ h.max = 0) := fun q => k0 q.2
      rw [sizeN, sizeN]
      simp only [if_neg e0, if_pos k]
      omega
  · rw [size_row k hm, size_row k f2]
    have := sum_norm subs hs
    omega

/-! ### groups -/
mutual
def grpN : Nd → Int
  | .mk h subs => grpA (if h.kind = 7 then Max.max 0 h.num else 0) subs
def grpA : Int → List Nd → Int
  | a, [] => a
  | a, n :: r => grpA (Max.max a (grpN n)) r
end
theorem grpA_zero : ∀ (l : List Nd) (a : Int), (∀ n ∈ l, grpN n = 0) → 0 ≤ a → grpA a l = a
  | [], a, _, _ => by rw [grpA]
  | n :: r, a, h, h0 => by
    rw [grpA, h n (by simp), show Max.max a 0 = a by omega]
    exact grpA_zero r a (fun m hm => h m (List.mem_cons_of_mem _ hm)) h0
theorem grp_free : ∀ (n : Nd), freeN n = true → grpN n = 0 := by
  refine Nd.ind fun h subs ih hf => ?_
  rw [freeN, Bool.and_eq_true] at hf
  have k : h.kind ≠ 7 := by simpa using hf.1
  rw [grpN, if_neg k]
  exact grpA_zero subs 0 (fun n hn => ih n hn ((freeL_iff subs).1 hf.2 n hn)) (Int.le_refl _)
theorem grpA_congr : ∀ (l : List Nd) (a : Int), (∀ n ∈ l, grpN (normN n) = grpN n) → grpA a (l.map normN) = grpA a l
  | [], a, _ => rfl
  | n :: r, a, h => by
    rw [List.map_cons, grpA, grpA, h n (by simp)]
    exact grpA_congr r _ (fun m hm => h m (List.mem_cons_of_mem _ hm))

end Go.Proofs.YtkcgbdoplhgbmaaDoor
