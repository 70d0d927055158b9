/- How much the options' words hold, and how much a parse answers (plain). No condition. -/
import Derived.Test.YtkcgbdoplhgbmaaDoorOMu
import Derived.Test.YtkcgbdoplhgbmaaDoorOptB
namespace Go.Proofs.YtkcgbdoplhgbmaaDoor
open Go

theorem tot_app (a b : List (List UInt8)) : totP (a ++ b) = totP a + totP b := by unfold totP; rw [List.map_append, List.sum_append]
theorem tot_nil : totP [] = 0 := rfl
theorem tot_parts : ∀ l : List UInt8, totP (partsP l) = l.length + 1
  | [] => rfl
  | b :: r => by
    have ih := tot_parts r
    rw [partsP_cons]
    split
    · rw [totP_cons, ih, List.length_cons, List.length_nil]; omega
    · cases h : partsP r with
      | nil => exact absurd h (partsP_ne r)
      | cons a t =>
        rw [h, totP_cons] at ih
        show totP (([b] ++ a) :: t) = _
        rw [totP_cons, List.length_append, List.length_cons, List.length_cons, List.length_nil]
        omega
theorem word_tot (nx : Option (List UInt8)) : ∀ (l : List UInt8) (o o' : Ops) (dt : Nat) (took : Bool), wordP l nx o = some (o', dt, took) →
    (took = true → ∃ y, nx = some y ∧ totP o'.pats ≤ totP o.pats + y.length + 1) ∧ (took = false → totP o'.pats ≤ totP o.pats + l.length + 1)
  | [], o, o', dt, took, h => by
    cases h
    exact ⟨fun h => (by cases h), fun _ => (by simp only [List.length_nil]; omega)⟩
  | b :: r, o, o', dt, took, h => by
    by_cases hb : b = 101 ∨ b = 109
    · rcases ha : argP r nx with _ | ⟨x, tk⟩
      · rw [word_no hb ha] at h
        cases h
      · have hx := tot_parts x
        have har : tk = true → nx = some x := fun ht => by
          unfold argP at ha
          split at ha
          · cases ha; cases ht
          · cases nx with
            | none => cases ha
            | some y => cases ha; rfl
        have har2 : tk = false → x = r := fun ht => by
          unfold argP at ha
          split at ha
          · cases ha; rfl
          · cases nx with
            | none => cases ha
            | some y => cases ha; cases ht
        rcases hb with rfl | rfl
        · rw [word_e ha] at h
          cases h
          refine ⟨fun ht => ⟨x, har ht, by simp only [tot_app]; omega⟩, fun ht => ?_⟩
          have := har2 ht
          subst this
          simp only [tot_app, List.length_cons]
          omega
        · rw [word_m ha] at h
          rcases hn : numbP x with _ | nb
          · rw [hn] at h; cases h
          · rw [hn] at h
            cases h
            exact ⟨fun ht => ⟨x, har ht, by dsimp only; omega⟩, fun _ => by dsimp only; omega⟩
    · rcases hs : simpP b o with _ | o2
      · rw [word_none hb hs] at h; cases h
      · rw [word_step hb hs] at h
        obtain ⟨h2, h3⟩ := word_tot nx r o2 o' dt took h
        have hp : o2.pats = o.pats := by
          rcases hi : isSimp b with _ | _
          · rw [simp_no hi] at hs; cases hs
          · obtain ⟨o3, h4, h5, _⟩ := simp_of hi o
            rw [hs] at h4
            cases h4
            exact h5
        rw [hp] at h2 h3
        exact ⟨h2, fun ht => by have := h3 ht; rw [List.length_cons]; omega⟩
theorem end_tot {ws : List (List UInt8)} {i t : Nat} {o o' : Ops} (h : endP ws i o t = .ok o') : totP o'.pats ≤ totP o.pats + totP ws := by
  cases t with
  | zero =>
    cases ws with
    | nil => cases h
    | cons w r =>
      rw [endP] at h
      split at h
      · cases h
        rename_i hr
        subst hr
        simp only [tot_app, tot_parts, totP_cons]
        omega
      · cases h
  | succ t =>
    cases ws with
    | nil => cases h; omega
    | cons w r => cases h
theorem parse_tot : ∀ (f : Nat) (ws : List (List UInt8)) (i t : Nat) (o o' : Ops), parseP f ws i o t = .ok o' → totP o'.pats ≤ totP o.pats + totP ws
  | 0, ws, i, t, o, o', h => by rw [parseP] at h; exact end_tot h
  | f + 1, [], i, t, o, o', h => by rw [parseP] at h; exact end_tot h
  | f + 1, w :: r, i, t, o, o', h => by
    rw [parseP] at h
    by_cases c1 : w = [45, 45]
    · rw [if_pos c1] at h; have := end_tot h; rw [totP_cons]; omega
    rw [if_neg c1] at h
    by_cases c2 : w.length < 2 ∨ w.head? ≠ some 45
    · rw [if_pos c2] at h; exact end_tot h
    rw [if_neg c2] at h
    rw [totP_cons]
    cases hw : wordP (w.drop 1) r.head? o with
    | none => rw [hw] at h; cases h
    | some x =>
      obtain ⟨o2, dt, took⟩ := x
      rw [hw] at h
      obtain ⟨h2, h3⟩ := word_tot _ _ _ _ _ _ hw
      cases took with
      | true =>
        simp only [if_true] at h
        have := parse_tot f r.tail (i + 2) (t + dt) o2 o' h
        obtain ⟨y, hy, hy2⟩ := h2 rfl
        cases r with
        | nil => cases hy
        | cons a r =>
          cases hy
          rw [totP_cons]
          simp only [List.tail_cons] at this
          omega
      | false =>
        simp only [Bool.false_eq_true, if_false] at h
        have := parse_tot f r (i + 1) (t + dt) o2 o' h
        have h4 := h3 rfl
        rw [List.length_drop] at h4
        omega
theorem parsed_tot {ws : List (List UInt8)} {o' : Ops} (h : parsedP ws = .ok o') : totP o'.pats ≤ totP ws := by
  have := parse_tot _ _ _ _ _ _ h
  have e : totP noOps.pats = 0 := rfl
  omega
theorem itoa_nine {m : Int} (h0 : 0 ≤ m) (h1 : m ≤ 999999999) : (Lib.itoa m).length ≤ 9 := by
  have h := dig_itoa h0 h1
  unfold numbP at h
  split at h
  · rename_i hc; exact hc.2.1
  · cases h
theorem patW_tot : ∀ ps : List (List UInt8), totP (patW ps) ≤ 4 * totP ps
  | [] => Nat.le_refl _
  | p :: r => by
    have ih := patW_tot r
    have e : patW (p :: r) = [45, 101] :: p :: patW r := rfl
    rw [e, totP_cons, totP_cons, totP_cons]
    simp only [List.length_cons, List.length_nil]
    omega
theorem one_if (c : Prop) [Decidable c] (b : UInt8) : (if c then [b] else []).length ≤ 1 := by split <;> simp
theorem words_tot {o : Ops} (h : okO o) : totP (wordsP o) ≤ 4 * totP o.pats + 40 := by
  obtain ⟨_, _, ⟨h3, h4⟩, _, _⟩ := h
  unfold wordsP
  rw [tot_app, tot_app]
  have h1 := patW_tot o.pats
  have h2 : totP (if 0 ≤ o.most then [[45, 109], Lib.itoa o.most] else []) ≤ 13 := by
    split
    · rename_i h0
      have := itoa_nine h0 h4
      rw [totP_cons, totP_cons, tot_nil]
      simp only [List.length_cons, List.length_nil]
      omega
    · rw [tot_nil]; omega
  have h5 : totP (if letP o = [] then [] else [45 :: letP o]) ≤ 11 := by
    split
    · rw [tot_nil]; omega
    · have : (letP o).length ≤ 9 := by
        unfold letP
        simp only [List.length_append]
        have q := fun (c : Prop) [Decidable c] (b : UInt8) => one_if c b
        refine Nat.le_trans (Nat.add_le_add (Nat.add_le_add (Nat.add_le_add (Nat.add_le_add (Nat.add_le_add (Nat.add_le_add (Nat.add_le_add (Nat.add_le_add (q _ _) (q _ _)) (q _ _)) (q _ _)) (q _ _)) (q _ _)) (q _ _)) (q _ _)) (q _ _)) (by decide)
      rw [totP_cons, tot_nil, List.length_cons]
      omega
  omega

end Go.Proofs.YtkcgbdoplhgbmaaDoor
