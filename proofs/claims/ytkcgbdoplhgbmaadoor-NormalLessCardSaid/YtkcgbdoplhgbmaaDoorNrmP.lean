/- The normal form of a tree, in plain words: as the program goes, and as the reference goes: the same. No program. -/
import Derived.Test.YtkcgbdoplhgbmaaDoorExpP
import Derived.Test.YtkcgbdoplhgbmaaDoorSameP
namespace Go.Proofs.YtkcgbdoplhgbmaaDoor
open Go Go.RowKit

/-! ### sets without bits beyond 256 -/
def clS (p : Nat → Bool) : Prop := ∀ b, 256 ≤ b → p b = false
mutual
def clN : Nd → Prop
  | .mk h s => clS h.set ∧ clL s
def clL : List Nd → Prop
  | [] => True
  | n :: r => clN n ∧ clL r
end
theorem clL_iff : ∀ (l : List Nd), clL l ↔ ∀ n ∈ l, clN n
  | [] => by rw [clL]; simp
  | n :: r => by rw [clL, clL_iff r]; simp
theorem formL_iff : ∀ (l : List Nd), formL l = true ↔ ∀ n ∈ l, formB n = true
  | [] => by rw [formL]; simp
  | n :: r => by rw [formL, Bool.and_eq_true, formL_iff r]; simp
theorem clS_no : clS noS := fun _ _ => rfl
theorem zero_clean {p : Nat → Bool} (hz : zeroS p = true) (hc : clS p) : p = noS := by
  funext b
  by_cases hb : b < 256
  · simp only [zeroS, decide_eq_true_eq] at hz
    refine wd_inj (p := p) (q := noS) (fun i hi => ?_) b hb
    have hn : wd noS i = 0 := wd_none i
    rw [hn]
    match i, hi with
    | 0, _ => exact_mod_cast hz.1
    | 1, _ => exact_mod_cast hz.2.1
    | 2, _ => exact_mod_cast hz.2.2.1
    | 3, _ => exact_mod_cast hz.2.2.2
  · exact hc b (by omega)

/-! ### what a node in form is -/
theorem formed_plain {h : Hd} {len : Nat} (hf : formedB h len = true) (hk : h.kind = 1 ∨ h.kind = 3 ∨ h.kind = 4 ∨ h.kind = 5 ∨ h.kind = 6) (hc : clS h.set) : h = hdV h.kind := by
  have hp : plainB h = true := by
    unfold formedB at hf
    rcases hk with hk | hk | hk | hk | hk
    · rw [if_pos (.inl hk), Bool.and_eq_true] at hf; exact hf.1
    · rw [if_pos (.inr (.inl hk)), Bool.and_eq_true] at hf; exact hf.1
    · rw [if_pos (.inr (.inr hk)), Bool.and_eq_true] at hf; exact hf.1
    · rw [if_neg (by omega), if_neg (by omega), if_pos (.inl hk), Bool.and_eq_true] at hf; exact hf.1
    · rw [if_neg (by omega), if_neg (by omega), if_pos (.inr hk), Bool.and_eq_true] at hf; exact hf.1
  unfold plainB at hp
  simp only [Bool.and_eq_true, decide_eq_true_eq, Bool.not_eq_true'] at hp
  obtain ⟨⟨⟨⟨hz, h1⟩, h2⟩, h3⟩, h4⟩ := hp
  obtain ⟨kind, set, num, mn, mx, bare⟩ := h
  simp only at *
  subst h1 h2 h3 h4
  rw [zero_clean hz hc]
  rfl
theorem formed_leaf {h : Hd} {len : Nat} (hf : formedB h len = true) (hk : h.kind < 5) : len = 0 := by
  unfold formedB at hf
  split at hf
  · simp only [Bool.and_eq_true, decide_eq_true_eq] at hf; exact hf.2
  split at hf
  · simp only [Bool.and_eq_true, decide_eq_true_eq] at hf; exact hf.2
  split at hf
  · omega
  split at hf
  · omega
  split at hf
  · omega
  · cases hf
theorem formed_kind {h : Hd} {len : Nat} (hf : formedB h len = true) : 1 ≤ h.kind ∧ h.kind ≤ 8 := by
  unfold formedB at hf
  split at hf
  · omega
  split at hf
  · omega
  split at hf
  · omega
  split at hf
  · omega
  split at hf
  · omega
  · cases hf
theorem formed_two {h : Hd} {len : Nat} (hf : formedB h len = true) (hk : h.kind = 5 ∨ h.kind = 6) : 1 < len := by
  unfold formedB at hf
  rw [if_neg (by omega), if_neg (by omega), if_pos hk] at hf
  simp only [Bool.and_eq_true, decide_eq_true_eq] at hf
  exact hf.2
theorem formed_bytes {h : Hd} {len : Nat} (hf : formedB h len = true) (hk : h.kind = 2) : h.num = 0 ∧ h.min = 0 ∧ h.max = 0 ∧ h.bare = false ∧ len = 0 := by
  unfold formedB at hf
  rw [if_neg (by omega), if_pos hk] at hf
  simp only [Bool.and_eq_true, decide_eq_true_eq, Bool.not_eq_true'] at hf
  exact ⟨hf.1.1.1.1, hf.1.1.1.2, hf.1.1.2, hf.1.2, hf.2⟩
theorem formed_single {h : Hd} {len : Nat} (hf : formedB h len = true) (hk : h.kind = 7 ∨ h.kind = 8) : len = 1 := by
  unfold formedB at hf
  rw [if_neg (by omega), if_neg (by omega), if_neg (by omega)] at hf
  rcases hk with hk | hk
  · rw [if_pos hk] at hf
    simp only [Bool.and_eq_true, decide_eq_true_eq] at hf
    exact hf.2
  · rw [if_neg (by omega), if_pos hk] at hf
    simp only [Bool.and_eq_true, decide_eq_true_eq] at hf
    exact hf.1.1.1.1.2
theorem formed_hdV (k : Int) (len : Nat) (h : ((k = 1 ∨ k = 3 ∨ k = 4) ∧ len = 0) ∨ ((k = 5 ∨ k = 6) ∧ 1 < len) ∨ (k = 2 ∧ len = 0)) : formedB (hdV k) len = true := by
  have hp : plainB (hdV k) = true := by unfold plainB; simp [hdV, zeroS_no]
  unfold formedB
  simp only [show (hdV k).kind = k from rfl]
  rcases h with ⟨hk, hl⟩ | ⟨hk, hl⟩ | ⟨hk, hl⟩
  · rw [if_pos hk, hp, decide_eq_true hl]; rfl
  · rw [if_neg (by omega), if_neg (by omega), if_pos hk, hp, decide_eq_true hl]; rfl
  · rw [if_neg (by omega), if_pos hk, decide_eq_true hl]; rfl
theorem form_mk {h : Hd} {l : List Nd} (h1 : formedB h l.length = true) (h2 : ∀ n ∈ l, formB n = true) : formB (.mk h l) = true := by
  rw [formB, h1, (formL_iff l).2 h2]; rfl
theorem form_at {h : Hd} {l : List Nd} (hf : formB (.mk h l) = true) : formedB h l.length = true ∧ ∀ n ∈ l, formB n = true := by
  rw [formB, Bool.and_eq_true] at hf
  exact ⟨hf.1, (formL_iff l).1 hf.2⟩
theorem cl_mk {h : Hd} {l : List Nd} (h1 : clS h.set) (h2 : ∀ n ∈ l, clN n) : clN (.mk h l) := ⟨h1, (clL_iff l).2 h2⟩
theorem cl_at {h : Hd} {l : List Nd} (hf : clN (.mk h l)) : clS h.set ∧ ∀ n ∈ l, clN n := ⟨hf.1, (clL_iff l).1 hf.2⟩
/-- In form, and clean. -/
def okN (n : Nd) : Prop := formB n = true ∧ clN n

/-- Does it take nothing, being a set without a byte? -/
def nthB (n : Nd) : Bool := decide (n.h.kind = 2) && zeroS n.h.set
theorem nth_is {n : Nd} (h : okN n) (hn : nthB n = true) : n = .mk (hdV 2) [] := by
  obtain ⟨hd, l⟩ := n
  unfold nthB at hn
  rw [Bool.and_eq_true, decide_eq_true_eq] at hn
  obtain ⟨hk, hz⟩ := hn
  obtain ⟨hf, hc⟩ := h
  obtain ⟨h1, h2, h3, h4, h5⟩ := formed_bytes (form_at hf).1 hk
  have hl : l = [] := List.eq_nil_of_length_eq_zero h5
  subst hl
  have hz2 := zero_clean hz (cl_at hc).1
  obtain ⟨kind, set, num, mn, mx, bare⟩ := hd
  simp only [Nd.h] at *
  subst hk h1 h2 h3 h4 hz2
  rfl
/-- A node that takes nothing but the empty piece, at a mark or anywhere. -/
theorem leaf_is {n : Nd} (h : okN n) (hk : n.h.kind = 1 ∨ n.h.kind = 3 ∨ n.h.kind = 4) : n = .mk (hdV n.h.kind) [] := by
  obtain ⟨hd, l⟩ := n
  simp only [Nd.h] at hk
  obtain ⟨hf, hc⟩ := h
  have h0 : l = [] := List.eq_nil_of_length_eq_zero (formed_leaf (form_at hf).1 (by omega))
  subst h0
  show Nd.mk hd [] = .mk (hdV hd.kind) []
  conv => lhs; rw [formed_plain (form_at hf).1 (by omega) (cl_at hc).1]

/-! ### a row -/
def lastK (l : List Nd) : Int := match l.getLast? with | some n => n.h.kind | none => 0
def markK (k : Int) : Bool := decide (k = 3) || decide (k = 4)
def seqAdd (out : List Nd) (s : Nd) : List Nd := if s.h.kind = 1 then out else if markK s.h.kind = true ∧ lastK out = s.h.kind then out else out ++ [s]
def seqK (l : List Nd) : List Nd := l.foldl seqAdd []
def seqO (l : List Nd) : Nd := match l.find? nthB with | some s => s | none => seqN (seqK l)
/-- The reference's. -/
def lessR : Int → List Nd → List Nd
  | _, [] => []
  | pk, s :: r => (if markK s.h.kind = true ∧ pk = s.h.kind then [] else [s]) ++ lessR s.h.kind r
def rowR (l : List Nd) : Nd := if l.any nthB = true then .mk (hdV 2) [] else seqN (lessR 0 (l.filter fun s => decide (s.h.kind ≠ 1)))
theorem lastK_snoc (l : List Nd) (s : Nd) : lastK (l ++ [s]) = s.h.kind := by unfold lastK; simp
theorem seqK_less : ∀ (l out : List Nd) (pk : Int), (markK pk = true → lastK out = pk) → (markK pk = false → markK (lastK out) = true → False) →
    l.foldl seqAdd out = out ++ lessR pk (l.filter fun s => decide (s.h.kind ≠ 1))
  | [], out, pk, _, _ => by simp [lessR]
  | s :: l, out, pk, h1, h2 => by
    rw [List.foldl_cons]
    by_cases k1 : s.h.kind = 1
    · have e : seqAdd out s = out := by unfold seqAdd; rw [if_pos k1]
      rw [e, List.filter_cons_of_neg (by simpa using k1)]
      exact seqK_less l out pk h1 h2
    · rw [List.filter_cons_of_pos (by simpa using k1), lessR]
      by_cases k2 : markK s.h.kind = true ∧ lastK out = s.h.kind
      · have e : seqAdd out s = out := by unfold seqAdd; rw [if_neg k1, if_pos k2]
        have hpk : pk = s.h.kind := by
          cases hm : markK pk
          · exact (h2 hm (by rw [k2.2]; exact k2.1)).elim
          · rw [← h1 hm]; exact k2.2
        rw [e, if_pos ⟨k2.1, hpk⟩, List.nil_append]
        exact seqK_less l out s.h.kind (fun _ => k2.2) (fun hm => by rw [k2.1] at hm; cases hm)
      · have e : seqAdd out s = out ++ [s] := by unfold seqAdd; rw [if_neg k1, if_neg k2]
        have hn : ¬ (markK s.h.kind = true ∧ pk = s.h.kind) := fun ⟨hm, hp⟩ => k2 ⟨hm, by rw [← hp] at hm ⊢; exact h1 hm⟩
        rw [e, if_neg hn, seqK_less l (out ++ [s]) s.h.kind (fun _ => lastK_snoc _ _) (fun hm h3 => by rw [lastK_snoc, hm] at h3; cases h3), List.append_assoc]
theorem seq_row {l : List Nd} (h : ∀ n ∈ l, okN n) : seqO l = rowR l := by
  unfold seqO rowR
  cases hf : l.find? nthB with
  | none =>
    have hn : l.any nthB = false := by
      rw [List.find?_eq_none] at hf
      rw [Bool.eq_false_iff]
      intro ha
      obtain ⟨x, hx, hxn⟩ := List.any_eq_true.1 ha
      exact hf x hx hxn
    rw [if_neg (by rw [hn]; decide)]
    have := seqK_less l [] 0 (fun h => by cases h) (fun _ h => by cases h)
    unfold seqK
    rw [this, List.nil_append]
  | some s =>
    have hs := List.find?_some hf
    have hm := List.mem_of_find?_eq_some hf
    rw [if_pos (List.any_eq_true.2 ⟨s, hm, hs⟩)]
    exact nth_is (h s hm) hs

/-! ### one of several -/
def orS (p q : Nat → Bool) : Nat → Bool := fun b => p b || q b
def setOf (n : Nd) (p : Nat → Bool) : Nd := .mk { n.h with set := p } n.subs
def joinAt (out : List Nd) (p : Nat → Bool) : List Nd := out.map fun o => if o.h.kind = 2 then setOf o (orS o.h.set p) else o
def bytesIn (out : List Nd) : Bool := out.any fun o => decide (o.h.kind = 2)
def seenIn (out : List Nd) (s : Nd) : Bool := out.any fun o => !decide (o.h.kind = 2) && sameN o s
def altAdd (out : List Nd) (s : Nd) : List Nd :=
  if nthB s = true then out
  else if s.h.kind = 2 ∧ bytesIn out = true then joinAt out s.h.set
  else if seenIn out s = true then out else out ++ [s]
def altN : List Nd → Nd
  | [] => .mk (hdV 2) []
  | [x] => x
  | a :: b :: l => .mk (hdV 6) (a :: b :: l)
def altO (l : List Nd) : Nd := altN (l.foldl altAdd [])
/-- The reference's. -/
def allB (l : List Nd) : Nat → Bool := l.foldl (fun p s => if s.h.kind = 2 then orS p s.h.set else p) noS
def choAdd (all : Nat → Bool) (st : List Nd × Bool) (s : Nd) : List Nd × Bool :=
  if s.h.kind = 2 then
    if st.2 = true ∨ nthB s = true then st
    else (if st.1.any (fun o => sameN o (setOf s all)) = true then st.1 else st.1 ++ [setOf s all], true)
  else (if st.1.any (fun o => sameN o s) = true then st.1 else st.1 ++ [s], st.2)
def choR (l : List Nd) : Nd := altN (l.foldl (choAdd (allB l)) ([], false)).1

theorem same_kind {a b : Nd} (h : sameN a b = true) : a.h.kind = b.h.kind := by
  obtain ⟨h1, s1⟩ := a
  obtain ⟨h2, s2⟩ := b
  rw [sameN, Bool.and_eq_true, Bool.and_eq_true] at h
  have := h.1.1
  simp only [sameH, Bool.and_eq_true, decide_eq_true_eq] at this
  exact this.1.1.1.1.1
/-- The program's list, its bytes' set laid anew. -/
def withS (p : Nat → Bool) (out : List Nd) : List Nd := out.map fun o => if o.h.kind = 2 then setOf o p else o
theorem seen_with (p : Nat → Bool) (s : Nd) (hs : s.h.kind ≠ 2) : ∀ (out : List Nd), (withS p out).any (fun o => sameN o s) = seenIn out s
  | [] => rfl
  | o :: out => by
    unfold withS seenIn
    rw [List.map_cons, List.any_cons, List.any_cons]
    have ih := seen_with p s hs out
    unfold withS seenIn at ih
    rw [ih]
    congr 1
    by_cases k : o.h.kind = 2
    · rw [if_pos k, decide_eq_true k]
      cases h : sameN (setOf o p) s
      · rfl
      · exact absurd ((same_kind h).symm.trans (show (setOf o p).h.kind = 2 from k)) hs
    · rw [if_neg k, decide_eq_false k]
      rfl
theorem with_bytes (p : Nat → Bool) (s : Nd) (hs : s.h.kind = 2) : ∀ (out : List Nd), bytesIn out = false → (withS p out).any (fun o => sameN o s) = false
  | [], _ => rfl
  | o :: out, h => by
    unfold bytesIn at h
    rw [List.any_cons, Bool.or_eq_false_iff] at h
    unfold withS
    rw [List.map_cons, List.any_cons]
    have k : o.h.kind ≠ 2 := by simpa using h.1
    have ih := with_bytes p s hs out h.2
    unfold withS at ih
    rw [ih, if_neg k, Bool.or_false]
    cases h : sameN o s
    · rfl
    · exact absurd ((same_kind h).trans hs) k
theorem with_join (p q : Nat → Bool) (out : List Nd) : withS p (joinAt out q) = withS p out := by
  unfold withS joinAt
  rw [List.map_map]
  refine List.map_congr_left fun o _ => ?_
  by_cases k : o.h.kind = 2
  · simp only [Function.comp, if_pos k]
    rw [if_pos (show (setOf o (orS o.h.set q)).h.kind = 2 from k)]
    rfl
  · simp only [Function.comp, if_neg k]
theorem bytes_join (q : Nat → Bool) (out : List Nd) : bytesIn (joinAt out q) = bytesIn out := by
  unfold bytesIn joinAt
  rw [List.any_map]
  congr 1
  funext o
  simp only [Function.comp]
  rw [decide_eq_decide]
  by_cases k : o.h.kind = 2
  · rw [if_pos k]; exact Iff.rfl
  · rw [if_neg k]
theorem bytes_snoc (out : List Nd) (s : Nd) : bytesIn (out ++ [s]) = (bytesIn out || decide (s.h.kind = 2)) := by unfold bytesIn; simp
/-- All bytes of the list have this set. -/
def setsB (p : Nat → Bool) (out : List Nd) : Prop := ∀ o ∈ out, o.h.kind = 2 → o.h.set = p
theorem with_self {p : Nat → Bool} {out : List Nd} (h : setsB p out) : withS p out = out := by
  unfold withS
  conv => rhs; rw [← List.map_id out]
  refine List.map_congr_left fun o ho => ?_
  by_cases k : o.h.kind = 2
  · rw [if_pos k, ← h o ho k]
    obtain ⟨hd, l⟩ := o
    rfl
  · rw [if_neg k]; rfl
theorem orS_no (p : Nat → Bool) : orS noS p = p := by funext b; simp [orS, noS]
theorem orS_right (p : Nat → Bool) : orS p noS = p := by funext b; simp [orS, noS]
theorem alt_cho (all : Nat → Bool) : ∀ (l out : List Nd) (p : Nat → Bool), (∀ n ∈ l, okN n) → (bytesIn out = true → setsB p out) → (bytesIn out = false → p = noS) →
    (l.foldl (choAdd all) (withS all out, bytesIn out)).1 = withS all (l.foldl altAdd out) ∧
    (bytesIn (l.foldl altAdd out) = true → setsB (l.foldl (fun p s => if s.h.kind = 2 then orS p s.h.set else p) p) (l.foldl altAdd out))
  | [], out, p, _, h1, _ => ⟨rfl, fun h => h1 h⟩
  | s :: l, out, p, hok, h1, h2 => by
    have hs := hok s (by simp)
    have hl : ∀ n ∈ l, okN n := fun n hn => hok n (List.mem_cons_of_mem _ hn)
    rw [List.foldl_cons, List.foldl_cons, List.foldl_cons]
    by_cases k : s.h.kind = 2
    · rw [if_pos k]
      by_cases hn : nthB s = true
      · have e1 : altAdd out s = out := by unfold altAdd; rw [if_pos hn]
        have e2 : choAdd all (withS all out, bytesIn out) s = (withS all out, bytesIn out) := by unfold choAdd; rw [if_pos k, if_pos (.inr hn)]
        have e3 : s.h.set = noS := by rw [nth_is hs hn]; rfl
        rw [e1, e2, e3, orS_right]
        exact alt_cho all l out p hl h1 h2
      · cases hb : bytesIn out
        · have e1 : altAdd out s = out ++ [s] := by
            unfold altAdd
            rw [if_neg hn, if_neg (fun h => by rw [hb] at h; cases h.2), if_neg]
            intro h
            unfold seenIn at h
            obtain ⟨o, ho, h⟩ := List.any_eq_true.1 h
            rw [Bool.and_eq_true] at h
            have hk := (same_kind h.2).trans k
            rw [hk] at h
            cases h.1
          have e2 : choAdd all (withS all out, false) s = (withS all (out ++ [s]), true) := by
            unfold choAdd
            rw [if_pos k, if_neg (by simp [hn]), with_bytes all (setOf s all) k out hb, if_neg (by decide)]
            unfold withS
            rw [List.map_append, List.map_singleton, if_pos k]
          have e4 : bytesIn (out ++ [s]) = true := by rw [bytes_snoc, decide_eq_true k, Bool.or_true]
          have hih := alt_cho all l (out ++ [s]) s.h.set hl (fun _ o ho hk => ?_) (fun h => by rw [e4] at h; cases h)
          · rw [e4] at hih
            rw [e1, e2, h2 hb, orS_no]
            exact hih
          rcases List.mem_append.1 ho with ho | ho
          · unfold bytesIn at hb
            rw [List.any_eq_false] at hb
            exact absurd (decide_eq_true hk) (by simpa using hb o ho)
          · rw [List.mem_singleton.1 ho]
        · have e1 : altAdd out s = joinAt out s.h.set := by unfold altAdd; rw [if_neg hn, if_pos ⟨k, hb⟩]
          have e2 : choAdd all (withS all out, true) s = (withS all out, true) := by unfold choAdd; rw [if_pos k, if_pos (.inl rfl)]
          have e4 : bytesIn (joinAt out s.h.set) = true := by rw [bytes_join]; exact hb
          have hih := alt_cho all l (joinAt out s.h.set) (orS p s.h.set) hl (fun _ o ho hk => ?_) (fun h => by rw [e4] at h; cases h)
          · rw [e4, with_join] at hih
            rw [e1, e2]
            exact hih
          unfold joinAt at ho
          obtain ⟨o', ho', rfl⟩ := List.mem_map.1 ho
          by_cases k' : o'.h.kind = 2
          · rw [if_pos k']
            show orS o'.h.set s.h.set = _
            rw [h1 hb o' ho' k']
          · rw [if_neg k'] at hk
            exact absurd hk k'
    · rw [if_neg k]
      have hn : nthB s = false := by unfold nthB; rw [decide_eq_false k]; rfl
      cases hse : seenIn out s
      · have e1 : altAdd out s = out ++ [s] := by unfold altAdd; rw [if_neg (by rw [hn]; decide), if_neg (fun h => k h.1), if_neg (by rw [hse]; decide)]
        have e2 : choAdd all (withS all out, bytesIn out) s = (withS all (out ++ [s]), bytesIn (out ++ [s])) := by
          unfold choAdd
          rw [if_neg k]
          simp only
          rw [seen_with all s k out, hse, if_neg (by decide), bytes_snoc, decide_eq_false k, Bool.or_false]
          unfold withS
          rw [List.map_append, List.map_singleton, if_neg k]
        have e4 : bytesIn (out ++ [s]) = bytesIn out := by rw [bytes_snoc, decide_eq_false k, Bool.or_false]
        rw [e1, e2]
        refine alt_cho all l (out ++ [s]) p hl (fun hb o ho hk => ?_) (fun hb => h2 (by rw [← e4]; exact hb))
        rw [e4] at hb
        rcases List.mem_append.1 ho with ho | ho
        · exact h1 hb o ho hk
        · rw [List.mem_singleton.1 ho] at hk
          exact absurd hk k
      · have e1 : altAdd out s = out := by unfold altAdd; rw [if_neg (by rw [hn]; decide), if_neg (fun h => k h.1), if_pos hse]
        have e2 : choAdd all (withS all out, bytesIn out) s = (withS all out, bytesIn out) := by
          unfold choAdd
          rw [if_neg k]
          simp only
          rw [seen_with all s k out, hse, if_pos rfl]
        rw [e1, e2]
        exact alt_cho all l out p hl h1 h2
theorem alt_choice {l : List Nd} (h : ∀ n ∈ l, okN n) : altO l = choR l := by
  unfold altO choR
  obtain ⟨h1, h2⟩ := alt_cho (allB l) l [] noS h (fun h => by cases h) (fun _ => rfl)
  have e : (withS (allB l) [], bytesIn []) = (([] : List Nd), false) := rfl
  rw [e] at h1
  rw [h1]
  cases hb : bytesIn (l.foldl altAdd [])
  · congr 1
    unfold withS
    conv => lhs; rw [← List.map_id (l.foldl altAdd [])]
    refine List.map_congr_left fun o ho => ?_
    unfold bytesIn at hb
    rw [List.any_eq_false] at hb
    have := hb o ho
    rw [if_neg (by simpa using this)]
    rfl
  · have e2 := with_self (p := allB l) (h2 hb)
    rw [e2]

end Go.Proofs.YtkcgbdoplhgbmaaDoor
