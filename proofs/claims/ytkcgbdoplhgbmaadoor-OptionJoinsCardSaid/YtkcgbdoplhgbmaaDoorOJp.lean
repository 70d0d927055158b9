/- OptionJoins in plain words: the letters apart and joined, a text behind '--' and behind '-e'. No condition. -/
import Derived.Test.YtkcgbdoplhgbmaaDoorOptC
import Derived.Test.YtkcgbdoplhgbmaaDoorShS
import Derived.Lib.IndexAny
namespace Go.Proofs.YtkcgbdoplhgbmaaDoor
open Go

def apartL (l : List UInt8) : List (List UInt8) := l.map fun b => [45, b]
def joinedL (l : List UInt8) : List (List UInt8) := if l = [] then [] else [45 :: l]
def resO (l t : List UInt8) : Ops := { simpAll l noOps with pats := partsP t }
theorem behind_dd (f i : Nat) (o : Ops) (t : List UInt8) (ho : o.pats = []) : parseP (f + 1) [[45, 45], t] i o 0 = .ok { o with pats := partsP t } := by
  rw [parseP, if_pos rfl, endP, if_pos rfl, ho, List.nil_append]
theorem behind_e (f i : Nat) (o : Ops) (t : List UInt8) (ho : o.pats = []) : parseP (f + 1) [[45, 101], t] i o 0 = .ok { o with pats := partsP t } := by
  rw [parse_word (w := [101]) (by decide) (by decide), word_e (x := t) (took := true) rfl]
  simp only [if_true, List.tail_cons]
  cases f with
  | zero => rw [parseP, ho, List.nil_append]; rfl
  | succ f => rw [parseP, ho, List.nil_append]; rfl
theorem simpAll_cons (b : UInt8) (l : List UInt8) (o : Ops) : simpAll (b :: l) o = simpAll l ((simpP b o).getD o) := rfl
theorem one_letter {b : UInt8} (h : isSimp b = true) (nx : Option (List UInt8)) (o : Ops) : wordP [b] nx o = some ((simpP b o).getD o, 0, false) :=
  word_simp nx [b] o (fun x hx => by rw [List.mem_singleton] at hx; subst hx; exact h)
theorem pats_one {b : UInt8} (h : isSimp b = true) (o : Ops) : ((simpP b o).getD o).pats = o.pats := by
  obtain ⟨o', h1, h2, _⟩ := simp_of h o
  rw [h1]
  exact h2
theorem ne_dd {b : UInt8} (h : isSimp b = true) : 45 :: [b] ≠ [45, 45] := by
  intro e
  injection e with _ e
  injection e with e _
  subst e
  cases h
theorem parse_apart (t : List UInt8) : ∀ (l : List UInt8) (f i : Nat) (o : Ops), (∀ b ∈ l, isSimp b = true) → l.length < f → o.pats = [] → parseP f (apartL l ++ [[45, 45], t]) i o 0 = .ok { simpAll l o with pats := partsP t }
  | [], f, i, o, _, hf, ho => by
    obtain ⟨f', rfl⟩ : ∃ f', f = f' + 1 := ⟨f - 1, by omega⟩
    exact behind_dd f' i o t ho
  | b :: l, f, i, o, h, hf, ho => by
    obtain ⟨f', rfl⟩ : ∃ f', f = f' + 1 := ⟨f - 1, by simp only [List.length_cons] at hf; omega⟩
    have hb := h b (List.mem_cons_self ..)
    have e : apartL (b :: l) ++ [[45, 45], t] = (45 :: [b]) :: (apartL l ++ [[45, 45], t]) := rfl
    rw [e, parse_word (by simp) (ne_dd hb), one_letter hb]
    simp only [Bool.false_eq_true, if_false]
    rw [parse_apart t l f' (i + 1) _ (fun x hx => h x (List.mem_cons_of_mem _ hx)) (by simp only [List.length_cons] at hf; omega) (by rw [pats_one hb, ho]), simpAll_cons]
theorem parsed_apart {l : List UInt8} (t : List UInt8) (h : ∀ b ∈ l, isSimp b = true) : parsedP (apartL l ++ [[45, 45], t]) = .ok (resO l t) := by
  unfold parsedP
  exact parse_apart t l _ 0 noOps h (by simp [apartL]) rfl
theorem parse_joined {l : List UInt8} (h : ∀ b ∈ l, isSimp b = true) (r : List (List UInt8)) (x : Ops) (hr : ∀ (f i : Nat) (o : Ops), o.pats = [] → parseP (f + 1) r i o 0 = .ok { o with pats := x.pats }) (hn : r ≠ []) : parsedP (joinedL l ++ r) = .ok { simpAll l noOps with pats := x.pats } := by
  obtain ⟨n, hn⟩ : ∃ n, r.length = n + 1 := by cases r with | nil => exact absurd rfl hn | cons a r => exact ⟨r.length, rfl⟩
  unfold parsedP joinedL
  by_cases hl : l = []
  · subst hl
    rw [if_pos rfl, List.nil_append, hn]
    exact hr n 0 noOps rfl
  · rw [if_neg hl]
    show parseP (List.length ((45 :: l) :: r)) ((45 :: l) :: r) 0 noOps 0 = _
    rw [List.length_cons, hn, parse_word hl (dash_ne h), word_simp _ l noOps h]
    simp only [Bool.false_eq_true, if_false]
    exact hr n 1 (simpAll l noOps) (simpAll_keep l noOps h).1
theorem parsed_joined {l : List UInt8} (t : List UInt8) (h : ∀ b ∈ l, isSimp b = true) : parsedP (joinedL l ++ [[45, 45], t]) = .ok (resO l t) :=
  parse_joined h _ (resO l t) (fun f i o ho => behind_dd f i o t ho) (by simp)
theorem parsed_e {l : List UInt8} (t : List UInt8) (h : ∀ b ∈ l, isSimp b = true) : parsedP (joinedL l ++ [[45, 101], t]) = .ok (resO l t) :=
  parse_joined h _ (resO l t) (fun f i o ho => behind_e f i o t ho) (by simp)
theorem res_most {l : List UInt8} (t : List UInt8) (h : ∀ b ∈ l, isSimp b = true) : (resO l t).most = -1 := (simpAll_keep l noOps h).2
def letters10 : ByteArray := ⟨#[69, 71, 105, 118, 99, 110, 111, 113, 120, 119]⟩
theorem in_letters (b : UInt8) : decide (0 ≤ Lib.indexByte letters10.data.toList b) = isSimp b := by
  rw [← Lib.contains_iff_indexByte, Bool.eq_iff_iff, List.contains_iff_mem]
  unfold isSimp letters10
  rw [decide_eq_true_eq]
  simp only [List.mem_cons, List.not_mem_nil, or_false]
  constructor
  · rintro (h | h | h | h | h | h | h | h | h | h) <;> simp [h]
  · rintro (h | h | h | h | h | h | h | h | h | h) <;> simp [h]
theorem join_glue : ∀ (p : List UInt8) (r : List (List UInt8)), joinP (p :: r) = p ++ Lib.joinTail [10] r
  | p, [] => by simp [joinP, Lib.joinTail]
  | p, q :: r => by
    rw [joinP, join_glue q r]
    simp [Lib.joinTail]
theorem lib_join (t : List UInt8) : Lib.join (partsP t) [10] = t := by
  have h := join_parts t
  cases hp : partsP t with
  | nil => exact absurd hp (partsP_ne t)
  | cons p r => rw [hp, join_glue] at h; rw [Lib.join_cons]; exact h

end Go.Proofs.YtkcgbdoplhgbmaaDoor
