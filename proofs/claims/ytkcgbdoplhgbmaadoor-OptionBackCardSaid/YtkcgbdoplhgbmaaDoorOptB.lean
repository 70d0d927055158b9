/- The filter's options, in plain words: the words of options, and that they come back. No condition; no program. -/
import Derived.Test.YtkcgbdoplhgbmaaDoorOptP
import Derived.Lib.ItoaNum
namespace Go.Proofs.YtkcgbdoplhgbmaaDoor
open Go Go.RowKit

/-- The letters of options. -/
def letP (o : Ops) : List UInt8 :=
  (if o.fl % 2 = 1 then [69] else []) ++ (if 2 ≤ o.fl then [105] else []) ++ (if o.inv then [118] else []) ++ (if o.cnt then [99] else []) ++ (if o.num then [110] else []) ++ (if o.onl then [111] else []) ++ (if o.qui then [113] else []) ++
  (if o.md % 2 = 1 then [120] else []) ++ (if 2 ≤ o.md then [119] else [])
def okO (o : Ops) : Prop := (0 ≤ o.fl ∧ o.fl ≤ 3) ∧ (0 ≤ o.md ∧ o.md ≤ 3) ∧ (-1 ≤ o.most ∧ o.most ≤ 999999999) ∧ o.pats ≠ [] ∧ ∀ p ∈ o.pats, (10 : UInt8) ∉ p
instance (o : Ops) : Decidable (okO o) := by unfold okO; infer_instance
def patW (ps : List (List UInt8)) : List (List UInt8) := ps.flatMap fun p => [[45, 101], p]
def wordsP (o : Ops) : List (List UInt8) := (if letP o = [] then [] else [45 :: letP o]) ++ (if 0 ≤ o.most then [[45, 109], Lib.itoa o.most] else []) ++ patW o.pats

/-! ### parts -/
theorem parts_none : ∀ (p : List UInt8), (10 : UInt8) ∉ p → partsP p = [p]
  | [], _ => rfl
  | b :: r, h => by
    have h1 : b ≠ 10 := fun e => h (by simp [e])
    have h2 : (10 : UInt8) ∉ r := fun e => h (List.mem_cons_of_mem _ e)
    rw [partsP, if_neg h1, parts_none r h2]
theorem parts_ne' : ∀ (p : List UInt8), partsP p ≠ []
  | [] => by simp [partsP]
  | b :: r => by
    rw [partsP]
    split
    · simp
    · split <;> simp
theorem parts_clean : ∀ (p : List UInt8), ∀ q ∈ partsP p, (10 : UInt8) ∉ q
  | [], q, h => by simp [partsP] at h; subst h; simp
  | b :: r, q, h => by
    have ih := parts_clean r
    rw [partsP] at h
    split at h
    · rcases List.mem_cons.1 h with rfl | h
      · simp
      · exact ih q h
    · rename_i hb
      split at h
      · simp at h; subst h; simpa using fun e => hb e.symm
      · rename_i p' q' he
        rw [he] at ih
        rcases List.mem_cons.1 h with rfl | h
        · intro hm
          rcases List.mem_cons.1 hm with hm | hm
          · exact hb hm.symm
          · exact ih p' (by simp) hm
        · exact ih q (List.mem_cons_of_mem _ h)
/-- Pieces with newlines between. -/
def joinP : List (List UInt8) → List UInt8
  | [] => []
  | [p] => p
  | p :: q :: r => p ++ 10 :: joinP (q :: r)
theorem join_parts : ∀ (p : List UInt8), joinP (partsP p) = p
  | [] => rfl
  | b :: r => by
    have ih := join_parts r
    rw [partsP]
    split
    · rename_i hb
      subst hb
      match h : partsP r with
      | [] => exact absurd h (parts_ne' r)
      | p :: q => rw [h] at ih; rw [joinP, ih]; rfl
    · split
      · rename_i h; exact absurd h (parts_ne' r)
      · rename_i p' q' he
        rw [he] at ih
        cases q' with
        | nil => rw [joinP] at *; rw [ih]
        | cons a t => rw [joinP] at *; rw [← ih]; rfl

/-! ### letters -/
def isSimp (b : UInt8) : Bool := b ∈ ([69, 71, 105, 120, 119, 118, 99, 110, 111, 113] : List UInt8)
theorem simp_of {b : UInt8} (h : isSimp b = true) (o : Ops) : ∃ o', simpP b o = some o' ∧ o'.pats = o.pats ∧ o'.most = o.most ∧ ((0 ≤ o.fl ∧ o.fl ≤ 3) → (0 ≤ o'.fl ∧ o'.fl ≤ 3)) ∧ ((0 ≤ o.md ∧ o.md ≤ 3) → (0 ≤ o'.md ∧ o'.md ≤ 3)) := by
  unfold isSimp at h
  simp only [List.mem_cons, List.not_mem_nil, or_false, Bool.decide_or, Bool.or_eq_true, decide_eq_true_eq] at h
  rcases h with rfl | rfl | rfl | rfl | rfl | rfl | rfl | rfl | rfl | rfl
  all_goals (refine ⟨_, rfl, rfl, rfl, ?_, ?_⟩ <;> simp only <;> omega)
theorem simp_no {b : UInt8} (h : isSimp b = false) (o : Ops) : simpP b o = none := by
  unfold isSimp at h
  simp only [List.mem_cons, List.not_mem_nil, or_false, decide_eq_false_iff_not, not_or] at h
  obtain ⟨h1, h2, h3, h4, h5, h6, h7, h8, h9, h10⟩ := h
  unfold simpP
  rw [if_neg h1, if_neg h2, if_neg h3, if_neg h4, if_neg h5, if_neg h6, if_neg h7, if_neg h8, if_neg h9, if_neg h10]
theorem simp_em {b : UInt8} (h : isSimp b = true) : ¬ (b = 101 ∨ b = 109) := by
  rintro (rfl | rfl) <;> cases h
def simpAll (l : List UInt8) (o : Ops) : Ops := l.foldl (fun o b => (simpP b o).getD o) o
theorem word_simp (nx : Option (List UInt8)) : ∀ (l : List UInt8) (o : Ops), (∀ b ∈ l, isSimp b = true) → wordP l nx o = some (simpAll l o, 0, false)
  | [], o, _ => rfl
  | b :: r, o, h => by
    have hb := h b (by simp)
    obtain ⟨o', h1, _⟩ := simp_of hb o
    rw [wordP, if_neg (simp_em hb), h1]
    show wordP r nx o' = _
    rw [word_simp nx r o' (fun x hx => h x (List.mem_cons_of_mem _ hx))]
    have e : simpAll (b :: r) o = simpAll r o' := by unfold simpAll; rw [List.foldl_cons, h1]; rfl
    rw [e]
theorem simpAll_keep : ∀ (l : List UInt8) (o : Ops), (∀ b ∈ l, isSimp b = true) → (simpAll l o).pats = o.pats ∧ (simpAll l o).most = o.most
  | [], o, _ => ⟨rfl, rfl⟩
  | b :: r, o, h => by
    obtain ⟨o', h1, h2, h3, _⟩ := simp_of (h b (by simp)) o
    have ih := simpAll_keep r o' (fun x hx => h x (List.mem_cons_of_mem _ hx))
    have e : simpAll (b :: r) o = simpAll r o' := by unfold simpAll; rw [List.foldl_cons, h1]; rfl
    rw [e, ih.1, ih.2]
    exact ⟨h2, h3⟩
theorem simpAll_app (a b : List UInt8) (o : Ops) : simpAll (a ++ b) o = simpAll b (simpAll a o) := by unfold simpAll; rw [List.foldl_append]
theorem let_simp (o : Ops) : ∀ b ∈ letP o, isSimp b = true := by
  intro b hb
  unfold letP at hb
  simp only [List.mem_append] at hb
  rcases hb with ((((((((h | h) | h) | h) | h) | h) | h) | h) | h)
  all_goals (split at h <;> simp at h <;> subst h <;> rfl)
set_option maxHeartbeats 8000000 in
theorem let_ops (o : Ops) (h1 : 0 ≤ o.fl ∧ o.fl ≤ 3) (h2 : 0 ≤ o.md ∧ o.md ≤ 3) : simpAll (letP o) noOps = { o with most := -1, pats := [] } := by
  obtain ⟨fl, md, inv, cnt, num, onl, qui, most, pats⟩ := o
  simp only at h1 h2
  have hf : fl = 0 ∨ fl = 1 ∨ fl = 2 ∨ fl = 3 := by omega
  have hm : md = 0 ∨ md = 1 ∨ md = 2 ∨ md = 3 := by omega
  unfold letP
  simp only
  rcases hf with rfl | rfl | rfl | rfl <;> rcases hm with rfl | rfl | rfl | rfl <;> cases inv <;> cases cnt <;> cases num <;> cases onl <;> cases qui <;> rfl

/-! ### a parse, step by step -/
theorem parse_word {f : Nat} {w : List UInt8} {r : List (List UInt8)} {i t : Nat} {o : Ops} (h : w ≠ []) (h2 : 45 :: w ≠ [45, 45]) :
    parseP (f + 1) ((45 :: w) :: r) i o t = match wordP w r.head? o with
      | none => .error i
      | some (o', dt, took) => if took then parseP f r.tail (i + 2) o' (t + dt) else parseP f r (i + 1) o' (t + dt) := by
  rw [parseP, if_neg h2, if_neg]
  · rfl
  · have : 0 < w.length := by
      cases w with
      | nil => exact absurd rfl h
      | cons => simp
    simp
    omega
theorem dash_ne {w : List UInt8} (h : ∀ b ∈ w, isSimp b = true) : 45 :: w ≠ [45, 45] := by
  intro e
  injection e with _ e
  subst e
  have := h 45 (by simp)
  cases this
/-- The patterns' words. -/
theorem parse_pats : ∀ (ps : List (List UInt8)) (f i t : Nat) (o : Ops), (patW ps).length ≤ f → (∀ p ∈ ps, (10 : UInt8) ∉ p) → 0 < t ∨ ps ≠ [] → parseP f (patW ps) i o t = .ok { o with pats := o.pats ++ ps }
  | [], f, i, t, o, _, _, ht => by
    have ht : 0 < t := by simpa using ht
    obtain ⟨t, rfl⟩ : ∃ k, t = k + 1 := ⟨t - 1, by omega⟩
    have : parseP f (patW []) i o (t + 1) = .ok o := by cases f <;> rfl
    rw [this, List.append_nil]
  | p :: ps, f, i, t, o, hf, hp, _ => by
    have e : patW (p :: ps) = [45, 101] :: p :: patW ps := rfl
    rw [e] at hf ⊢
    simp only [List.length_cons] at hf
    obtain ⟨f, rfl⟩ : ∃ k, f = k + 1 := ⟨f - 1, by omega⟩
    rw [parse_word (by simp) (by decide)]
    have hw : wordP [101] (p :: patW ps).head? o = some ({ o with pats := o.pats ++ partsP p }, 1, true) := rfl
    rw [hw]
    simp only [if_true, List.tail_cons]
    rw [parts_none p (hp p (by simp)), parse_pats ps f (i + 2) (t + 1) _ (by omega) (fun q hq => hp q (List.mem_cons_of_mem _ hq)) (.inl (by omega))]
    simp
theorem val_app (a b : List UInt8) : valP (a ++ b) = b.foldl (fun n b => n * 10 + (b.toNat - 48)) (valP a) := by unfold valP; rw [List.foldl_append]
theorem dig_app (a b : List UInt8) : digP (a ++ b) = (digP a && digP b) := by unfold digP; rw [List.all_append]
theorem dig_one (d : Nat) (h : d < 10) : digP [UInt8.ofNat (48 + d)] = true ∧ (UInt8.ofNat (48 + d)).toNat - 48 = d := by
  have : d = 0 ∨ d = 1 ∨ d = 2 ∨ d = 3 ∨ d = 4 ∨ d = 5 ∨ d = 6 ∨ d = 7 ∨ d = 8 ∨ d = 9 := by omega
  rcases this with rfl | rfl | rfl | rfl | rfl | rfl | rfl | rfl | rfl | rfl <;> exact ⟨by decide, by decide⟩
theorem dec_val : ∀ (u : Nat), digP (Lib.decDigits u) = true ∧ valP (Lib.decDigits u) = u ∧ 0 < (Lib.decDigits u).length := by
  intro u
  induction u using Nat.strongRecOn with
  | ind u ih =>
    rw [Lib.decDigits]
    split
    · rename_i h
      obtain ⟨h1, h2⟩ := dig_one u h
      refine ⟨h1, ?_, by simp⟩
      unfold valP
      simp only [List.foldl_cons, List.foldl_nil]
      omega
    · rename_i h
      obtain ⟨h1, h2⟩ := dig_one (u % 10) (by omega)
      obtain ⟨i1, i2, i3⟩ := ih (u / 10) (by omega)
      refine ⟨by rw [dig_app, i1, h1]; rfl, ?_, by simp⟩
      rw [val_app, i2]
      simp only [List.foldl_cons, List.foldl_nil]
      omega
theorem dig_itoa {m : Int} (h0 : 0 ≤ m) (h1 : m ≤ 999999999) : numbP (Lib.itoa m) = some m.toNat := by
  unfold Lib.itoa
  rw [if_neg (by omega)]
  obtain ⟨i1, i2, i3⟩ := dec_val m.toNat
  have hl : (Lib.decDigits m.toNat).length ≤ 9 := by
    rw [Lib.decDigits_length]
    rcases Nat.lt_or_ge 9 (Lib.nDigits m.toNat) with h | h
    · exfalso
      have hp : ∀ u, 10 ^ (Lib.nDigits u - 1) ≤ u ∨ u = 0 := by
        intro u
        induction u using Nat.strongRecOn with
        | ind u ih =>
          by_cases hu : u < 10
          · rw [Lib.nDigits_small hu]; omega
          · rw [Lib.nDigits_big hu]
            have hpos := Lib.nDigits_pos (u / 10)
            rcases ih (u / 10) (by omega) with h | h
            · left
              rw [show Lib.nDigits (u / 10) + 1 - 1 = (Lib.nDigits (u / 10) - 1) + 1 by omega, Nat.pow_succ]
              omega
            · omega
      have hpow : 10 ^ 9 ≤ 10 ^ (Lib.nDigits m.toNat - 1) := Nat.pow_le_pow_right (by omega) (by omega)
      rcases hp m.toNat with h | h
      · omega
      · rw [h, Lib.nDigits_small (by omega)] at hpow
        omega
    · exact h
  unfold numbP
  rw [if_pos ⟨i3, hl, i1⟩, i2]
theorem num_le {s : List UInt8} {m : Nat} (h : numbP s = some m) : m ≤ 999999999 := by
  unfold numbP at h
  split at h
  · rename_i hc
    injection h with h
    subst h
    obtain ⟨_, hl, hd⟩ := hc
    have hv : ∀ (s : List UInt8) (a : Nat), digP s = true → s.foldl (fun n b => n * 10 + (b.toNat - 48)) a < (a + 1) * 10 ^ s.length := by
      intro s
      induction s with
      | nil => intro a _; simp
      | cons b s ih =>
        intro a hd
        simp only [digP, List.all_cons, Bool.and_eq_true, decide_eq_true_eq] at hd
        have hb : b.toNat ≤ 57 := hd.1.2
        have h1 := ih (a * 10 + (b.toNat - 48)) hd.2
        rw [List.foldl_cons, List.length_cons]
        refine Nat.lt_of_lt_of_le h1 ?_
        rw [Nat.pow_succ, Nat.mul_comm (10 ^ s.length) 10, ← Nat.mul_assoc]
        exact Nat.mul_le_mul_right _ (by omega)
    have h1 := hv s 0 hd
    rw [Nat.zero_add, Nat.one_mul] at h1
    have h2 : 10 ^ s.length ≤ 10 ^ 9 := Nat.pow_le_pow_right (by omega) hl
    have h3 : valP s < 10 ^ 9 := Nat.lt_of_lt_of_le h1 h2
    omega
  · cases h

/-! ### options come back -/
theorem back (o : Ops) (h : okO o) : parsedP (wordsP o) = .ok o := by
  obtain ⟨h1, h2, ⟨h3, h4⟩, h5, h6⟩ := h
  have hs := let_simp o
  have hl := let_ops o h1 h2
  have hm : ∀ (f i : Nat), ((if 0 ≤ o.most then [[45, 109], Lib.itoa o.most] else []) ++ patW o.pats).length ≤ f → parseP f ((if 0 ≤ o.most then [[45, 109], Lib.itoa o.most] else []) ++ patW o.pats) i { o with most := -1, pats := [] } 0 = .ok o := by
    intro f i hf
    by_cases h : 0 ≤ o.most
    · rw [if_pos h] at hf ⊢
      simp only [List.cons_append, List.nil_append, List.length_cons] at hf ⊢
      obtain ⟨f, rfl⟩ : ∃ k, f = k + 1 := ⟨f - 1, by omega⟩
      rw [parse_word (by simp) (by decide)]
      have hw : wordP [109] (Lib.itoa o.most :: patW o.pats).head? { o with most := -1, pats := [] } = some ({ o with most := (o.most.toNat : Int), pats := [] }, 0, true) := by
        rw [wordP, if_pos (by decide)]
        simp only [ne_eq, not_true_eq_false, if_false, List.head?_cons, Option.map_some, dig_itoa h h4]
        rfl
      rw [hw]
      simp only [if_true, List.tail_cons]
      rw [parse_pats o.pats f (i + 2) (0 + 0) _ (by omega) h6 (.inr h5)]
      have e : ((o.most.toNat : Nat) : Int) = o.most := by omega
      rw [e]
      obtain ⟨fl, md, inv, cnt, num, onl, qui, most, pats⟩ := o
      rfl
    · rw [if_neg h] at hf ⊢
      rw [List.nil_append] at hf ⊢
      rw [parse_pats o.pats f i 0 _ hf h6 (.inr h5)]
      have e : o.most = -1 := by omega
      obtain ⟨fl, md, inv, cnt, num, onl, qui, most, pats⟩ := o
      simp only at e
      subst e
      rfl
  unfold parsedP wordsP
  by_cases hn : letP o = []
  · rw [if_pos hn, List.nil_append]
    have e : ({ o with most := -1, pats := [] } : Ops) = noOps := by rw [← hl, hn]; rfl
    have := hm _ 0 (Nat.le_refl _)
    rw [e] at this
    exact this
  · rw [if_neg hn]
    simp only [List.cons_append, List.nil_append, List.length_cons]
    rw [parse_word hn (dash_ne hs), word_simp _ _ _ hs, hl]
    simp only [Bool.false_eq_true, if_false]
    exact hm _ 1 (Nat.le_refl _)

/-! ### what a parse answers -/
def invO (o : Ops) : Prop := (0 ≤ o.fl ∧ o.fl ≤ 3) ∧ (0 ≤ o.md ∧ o.md ≤ 3) ∧ (-1 ≤ o.most ∧ o.most ≤ 999999999) ∧ ∀ p ∈ o.pats, (10 : UInt8) ∉ p
theorem inv_no : invO noOps := ⟨by decide, by decide, by decide, by intro p hp; cases hp⟩
theorem word_inv (nx : Option (List UInt8)) : ∀ (l : List UInt8) (o o' : Ops) (dt : Nat) (took : Bool), invO o → wordP l nx o = some (o', dt, took) → invO o' ∧ (o.pats ≠ [] ∨ 0 < dt → o'.pats ≠ []) ∧ (took = true → nx ≠ none)
  | [], o, o', dt, took, h, he => by
    rw [wordP] at he
    injection he with he
    injection he with e1 e2
    injection e2 with e2 e3
    subst e1 e2 e3
    exact ⟨h, fun h => by rcases h with h | h; exact h; omega, fun h => by cases h⟩
  | b :: r, o, o', dt, took, h, he => by
    rw [wordP] at he
    split at he
    · split at he
      · cases he
      · rename_i a tk ha
        have htk : tk = true → nx ≠ none := by
          intro ht
          subst ht
          split at ha
          · injection ha with ha; injection ha with _ ha; cases ha
          · intro hn; rw [hn] at ha; cases ha
        split at he
        · injection he with he
          injection he with e1 e2
          injection e2 with e2 e3
          subst e1 e2 e3
          refine ⟨⟨h.1, h.2.1, h.2.2.1, fun p hp => ?_⟩, fun _ hn => ?_, htk⟩
          · rcases List.mem_append.1 hp with hp | hp
            · exact h.2.2.2 p hp
            · exact parts_clean a p hp
          · exact parts_ne' a (List.append_eq_nil_iff.1 hn).2
        · obtain ⟨m, hm, he⟩ := Option.map_eq_some_iff.1 he
          injection he with e1 e2
          injection e2 with e2 e3
          subst e1 e2 e3
          have := num_le hm
          exact ⟨⟨h.1, h.2.1, ⟨by simp only; omega, by simp only; omega⟩, h.2.2.2⟩, fun h => by rcases h with h | h; exact h; omega, htk⟩
    · split at he
      · cases he
      · rename_i o2 h2
        have hb : isSimp b = true := by
          cases hb : isSimp b
          · rw [simp_no hb] at h2; cases h2
          · rfl
        obtain ⟨o3, h3, h4, h5, h6, h7⟩ := simp_of hb o
        rw [h3] at h2
        injection h2 with h2
        subst h2
        have := word_inv nx r o3 o' dt took ⟨h6 h.1, h7 h.2.1, by rw [h5]; exact h.2.2.1, by rw [h4]; exact h.2.2.2⟩ he
        rw [h4] at this
        exact this
theorem end_inv {ws : List (List UInt8)} {i t : Nat} {o : Ops} (h : invO o) (ht : 0 < t → o.pats ≠ []) (n : Nat) (hn : i + ws.length ≤ n) : match endP ws i o t with
    | .ok o' => okO o'
    | .error k => k ≤ n := by
  cases t with
  | zero =>
    cases ws with
    | nil => show i ≤ n; simpa using hn
    | cons w r =>
      simp only [List.length_cons] at hn
      by_cases hr : r = []
      · rw [show endP (w :: r) i o 0 = .ok { o with pats := o.pats ++ partsP w } from if_pos hr]
        refine ⟨h.1, h.2.1, h.2.2.1, fun hn => parts_ne' w (List.append_eq_nil_iff.1 hn).2, fun p hp => ?_⟩
        rcases List.mem_append.1 hp with hp | hp
        · exact h.2.2.2 p hp
        · exact parts_clean w p hp
      · rw [show endP (w :: r) i o 0 = .error (i + 1) from if_neg hr]
        show i + 1 ≤ n
        omega
  | succ t =>
    cases ws with
    | nil => exact ⟨h.1, h.2.1, h.2.2.1, ht (by omega), h.2.2.2⟩
    | cons w r => simp only [List.length_cons] at hn; show i ≤ n; omega
theorem parse_inv (n : Nat) : ∀ (f : Nat) (ws : List (List UInt8)) (i t : Nat) (o : Ops), invO o → (0 < t → o.pats ≠ []) → i + ws.length ≤ n → match parseP f ws i o t with
    | .ok o' => okO o'
    | .error k => k ≤ n
  | 0, ws, i, t, o, h, ht, hn => by rw [parseP]; exact end_inv h ht n hn
  | f + 1, [], i, t, o, h, ht, hn => by rw [parseP]; exact end_inv h ht n hn
  | f + 1, w :: r, i, t, o, h, ht, hn => by
    simp only [List.length_cons] at hn
    rw [parseP]
    by_cases c1 : w = [45, 45]
    · rw [if_pos c1]; exact end_inv (ws := r) (i := i + 1) h ht n (by omega)
    rw [if_neg c1]
    by_cases c2 : w.length < 2 ∨ w.head? ≠ some 45
    · rw [if_pos c2]; exact end_inv (ws := w :: r) h ht n (by simp only [List.length_cons]; omega)
    rw [if_neg c2]
    cases hw : wordP (w.drop 1) r.head? o with
    | none => simp only; omega
    | some x =>
      obtain ⟨o', dt, took⟩ := x
      obtain ⟨h1, h2, h3⟩ := word_inv _ _ _ _ _ _ h hw
      have ht2 : 0 < t + dt → o'.pats ≠ [] := fun hp => h2 (by
        rcases Nat.eq_zero_or_pos dt with h | h
        · exact .inl (ht (by omega))
        · exact .inr h)
      cases took with
      | true =>
        simp only [if_true]
        refine parse_inv n f r.tail (i + 2) (t + dt) o' h1 ht2 ?_
        cases r with
        | nil => exact absurd rfl (h3 rfl)
        | cons a r => simp only [List.tail_cons, List.length_cons] at *; omega
      | false =>
        simp only [Bool.false_eq_true, if_false]
        exact parse_inv n f r (i + 1) (t + dt) o' h1 ht2 (by omega)
theorem parsed_inv (ws : List (List UInt8)) : match parsedP ws with
    | .ok o' => okO o'
    | .error k => k ≤ ws.length := parse_inv ws.length ws.length ws 0 0 noOps inv_no (fun h => absurd h (by decide)) (by omega)

end Go.Proofs.YtkcgbdoplhgbmaaDoor
