/- The normal form is its own normal form, in plain words. No program. -/
import Derived.Test.YtkcgbdoplhgbmaaDoorNrmL
namespace Go.Proofs.YtkcgbdoplhgbmaaDoor
open Go Go.RowKit

/-! ### free -/
theorem free_mk {h : Hd} {l : List Nd} (hk : h.kind ≠ 7) (hl : ∀ n ∈ l, freeN n = true) : freeN (.mk h l) = true := by
  rw [freeN, (freeL_iff l).2 hl, decide_eq_false hk]; rfl
theorem free_at {h : Hd} {l : List Nd} (hf : freeN (.mk h l) = true) : h.kind ≠ 7 ∧ ∀ n ∈ l, freeN n = true := by
  rw [freeN, Bool.and_eq_true] at hf
  exact ⟨by simpa using hf.1, (freeL_iff l).1 hf.2⟩
theorem free_seqN {l : List Nd} (h : ∀ n ∈ l, freeN n = true) : freeN (seqN l) = true := by
  match l, h with
  | [], _ => exact free_mk (by decide) (fun _ h => by cases h)
  | [x], h => exact h x (by simp)
  | a :: b :: r, h => exact free_mk (by decide) h
theorem free_altN {l : List Nd} (h : ∀ n ∈ l, freeN n = true) : freeN (altN l) = true := by
  match l, h with
  | [], _ => exact free_mk (by decide) (fun _ h => by cases h)
  | [x], h => exact h x (by simp)
  | a :: b :: r, h => exact free_mk (by decide) h
theorem free_set {n : Nd} (h : freeN n = true) (p : Nat → Bool) : freeN (setOf n p) = true := by
  obtain ⟨hd, l⟩ := n
  obtain ⟨h1, h2⟩ := free_at h
  exact free_mk h1 h2
theorem altK_free : ∀ (l out : List Nd), (∀ n ∈ l, freeN n = true) → (∀ n ∈ out, freeN n = true) → ∀ n ∈ l.foldl altAdd out, freeN n = true
  | [], out, _, h => h
  | s :: l, out, hl, ho => by
    rw [List.foldl_cons]
    refine altK_free l _ (fun n hn => hl n (List.mem_cons_of_mem _ hn)) (fun n hn => ?_)
    unfold altAdd at hn
    split at hn
    · exact ho n hn
    split at hn
    · unfold joinAt at hn
      obtain ⟨o, h1, rfl⟩ := List.mem_map.1 hn
      split
      · exact free_set (ho o h1) _
      · exact ho o h1
    split at hn
    · exact ho n hn
    · rcases List.mem_append.1 hn with hn | hn
      · exact ho n hn
      · rw [List.mem_singleton.1 hn]; exact hl s (by simp)
theorem free_parts {k : Int} {s : Nd} (h : freeN s = true) : ∀ n ∈ partsN k s, freeN n = true := by
  intro n hn
  unfold partsN at hn
  split at hn
  · obtain ⟨hd, l⟩ := s
    exact (free_at h).2 n hn
  · rw [List.mem_singleton.1 hn]; exact h
theorem simp_free : ∀ (n : Nd), formB n = true → freeN n = true → freeN (simpN n) = true := by
  refine Nd.ind fun h subs ih hf hfr => ?_
  obtain ⟨f1, f2⟩ := form_at hf
  obtain ⟨g1, g2⟩ := free_at hfr
  have hfl : ∀ k, ∀ n ∈ flatL k subs, freeN n = true := fun k n hn => by
    obtain ⟨m, hm, hn⟩ := (flatL_mem k subs n).1 hn
    exact free_parts (ih m hm (f2 m hm) (g2 m hm)) n hn
  rw [simpN]
  split
  · unfold seqO
    cases hx : (flatL 5 subs).find? nthB with
    | some s => exact hfl 5 s (List.mem_of_find?_eq_some hx)
    | none =>
      refine free_seqN fun n hn => ?_
      rcases seqK_mem _ [] n hn with hn | hn
      · cases hn
      · exact hfl 5 n hn
  split
  · exact free_altN (altK_free _ [] (hfl 6) (fun _ h => by cases h))
  split
  · rename_i k
    have := formed_single f1 (.inr k)
    match subs, this, ih, f2, g2 with
    | [x], _, ih, f2, g2 =>
      have hx := ih x (by simp) (f2 x (by simp)) (g2 x (by simp))
      rw [simpL, simpL]
      show freeN (repO h (simpN x)) = true
      have h1 : freeN (.mk (hdV 1) []) = true := free_mk (by decide) (fun _ h => by cases h)
      unfold repO
      split
      · exact h1
      split
      · split
        · exact h1
        · exact hx
      split
      · exact hx
      · exact free_mk (by simp) (fun n hn => by rw [List.mem_singleton.1 hn]; exact hx)
  · exact hfr
theorem norm_free : ∀ (n : Nd), formB n = true → freeN (normN n) = freeN n := by
  refine Nd.ind fun h subs ih hf => ?_
  obtain ⟨f1, f2⟩ := form_at hf
  rw [normN]
  split
  · rename_i hfr
    rw [simp_free _ hf hfr, hfr]
  · rw [freeN, freeN, normL_map]
    congr 1
    have e : ∀ l : List Nd, (∀ n ∈ l, n ∈ subs) → freeL (l.map normN) = freeL l := by
      intro l
      induction l with
      | nil => intro _; rfl
      | cons n r ihr =>
        intro hl
        rw [List.map_cons, freeL, freeL, ih n (hl n (by simp)) (f2 n (hl n (by simp))), ihr (fun m hm => hl m (List.mem_cons_of_mem _ hm))]
    exact e subs (fun _ h => h)
theorem norm_grp : ∀ (n : Nd), formB n = true → grpN (normN n) = grpN n := by
  refine Nd.ind fun h subs ih hf => ?_
  obtain ⟨f1, f2⟩ := form_at hf
  rw [normN]
  split
  · rename_i hfr
    rw [grp_free _ hfr, grp_free _ (simp_free _ hf hfr)]
  · rw [normL_map, grpN, grpN]
    exact grpA_congr subs _ (fun n hn => ih n hn (f2 n hn))

/-! ### lists that are laid already -/
theorem seqK_fix : ∀ (l out : List Nd), seqK out = out → seqK (l.foldl seqAdd out) = l.foldl seqAdd out
  | [], out, h => h
  | s :: l, out, h => by
    rw [List.foldl_cons]
    refine seqK_fix l _ ?_
    have h2 : seqAdd out s = out ∨ seqAdd out s = out ++ [s] := by
      unfold seqAdd
      split
      · exact .inl rfl
      split
      · exact .inl rfl
      · exact .inr rfl
    rcases h2 with h2 | h2
    · rw [h2]; exact h
    · unfold seqK at h ⊢
      rw [h2, List.foldl_append, h]
      exact h2
theorem seqK_kind : ∀ (l out : List Nd), (∀ n ∈ out, n.h.kind ≠ 1) → ∀ n ∈ l.foldl seqAdd out, n.h.kind ≠ 1
  | [], out, h => h
  | s :: l, out, h => by
    rw [List.foldl_cons]
    refine seqK_kind l _ (fun n hn => ?_)
    unfold seqAdd at hn
    split at hn
    · exact h n hn
    split at hn
    · exact h n hn
    · rename_i k _
      rcases List.mem_append.1 hn with hn | hn
      · exact h n hn
      · rw [List.mem_singleton.1 hn]; exact k
inductive AF : List Nd → Prop where
  | nil : AF []
  | snoc {out : List Nd} {s : Nd} (h : AF out) (h1 : nthB s = false) (h2 : s.h.kind = 2 → bytesIn out = false) (h3 : s.h.kind ≠ 2 → seenIn out s = false) : AF (out ++ [s])
theorem seen_two {s : Nd} (h : s.h.kind = 2) (out : List Nd) : seenIn out s = false := by
  unfold seenIn
  rw [List.any_eq_false]
  intro o _ ho
  rw [Bool.and_eq_true] at ho
  rw [(same_kind ho.2).trans h] at ho
  cases ho.1
theorem AF.fix {l : List Nd} (h : AF l) : l.foldl altAdd [] = l := by
  induction h with
  | nil => rfl
  | @snoc out s h h1 h2 h3 ih =>
    rw [List.foldl_append, ih]
    show altAdd out s = out ++ [s]
    unfold altAdd
    rw [if_neg (by rw [h1]; decide)]
    by_cases k : s.h.kind = 2
    · rw [if_neg (fun h => by rw [h2 k] at h; cases h.2), seen_two k, if_neg (by decide)]
    · rw [if_neg (fun h => k h.1), h3 k, if_neg (by decide)]
theorem or_zero {p q : Nat → Bool} (h : zeroS (orS p q) = true) : zeroS p = true := by
  simp only [zeroS, decide_eq_true_eq] at h ⊢
  have e : ∀ i, (wd (orS p q) i : Int) = 0 → (wd p i : Int) = 0 := fun i hi => by
    have h1 : wd p i ||| wd q i = 0 := by
      rw [wd_or]
      have : wd (orS p q) i = 0 := by exact_mod_cast hi
      exact this
    have := (Nat.or_eq_zero_iff.1 h1).1
    exact_mod_cast this
  exact ⟨e 0 h.1, e 1 h.2.1, e 2 h.2.2.1, e 3 h.2.2.2⟩
theorem nth_join {s : Nd} (p : Nat → Bool) (h : nthB s = false) : nthB (setOf s (orS s.h.set p)) = false := by
  rw [Bool.eq_false_iff] at h ⊢
  intro h2
  apply h
  unfold nthB at h2 ⊢
  rw [Bool.and_eq_true] at h2 ⊢
  exact ⟨h2.1, or_zero h2.2⟩
theorem seen_join (p : Nat → Bool) (s : Nd) (out : List Nd) : seenIn (joinAt out p) s = seenIn out s := by
  unfold seenIn joinAt
  rw [List.any_map]
  congr 1
  funext o
  simp only [Function.comp]
  have key : ∀ y : Nd, (y = setOf o (orS o.h.set p) ∧ o.h.kind = 2) ∨ (y = o ∧ o.h.kind ≠ 2) → (!decide (y.h.kind = 2) && sameN y s) = (!decide (o.h.kind = 2) && sameN o s) := by
    rintro y (⟨rfl, k⟩ | ⟨rfl, _⟩)
    · rw [decide_eq_true (show (setOf o (orS o.h.set p)).h.kind = 2 from k), decide_eq_true k]
      rfl
    · rfl
  refine key _ ?_
  by_cases k : o.h.kind = 2
  · exact .inl ⟨if_pos k, k⟩
  · exact .inr ⟨if_neg k, k⟩
theorem AF.join {l : List Nd} (h : AF l) (p : Nat → Bool) : AF (joinAt l p) := by
  induction h with
  | nil => exact AF.nil
  | @snoc out s h h1 h2 h3 ih =>
    unfold joinAt at ih ⊢
    rw [List.map_append, List.map_singleton]
    refine AF.snoc ih ?_ (fun k => ?_) (fun k => ?_)
    · split
      · exact nth_join p h1
      · exact h1
    · have k' : s.h.kind = 2 := by
        by_cases k2 : s.h.kind = 2
        · exact k2
        · rw [if_neg k2] at k; exact k
      have := bytes_join p out
      unfold joinAt at this
      rw [this]
      exact h2 k'
    · by_cases k2 : s.h.kind = 2
      · rw [if_pos k2] at k
        exact absurd k2 k
      · rw [if_neg k2]
        have := seen_join p s out
        unfold joinAt at this
        rw [this]
        exact h3 k2
theorem AF.add {out : List Nd} (h : AF out) (s : Nd) : AF (altAdd out s) := by
  unfold altAdd
  split
  · exact h
  · rename_i h1
    split
    · exact h.join _
    · rename_i h2
      split
      · exact h
      · rename_i h3
        refine AF.snoc h (by simpa using h1) (fun k => ?_) (fun _ => by simpa using h3)
        cases hb : bytesIn out
        · rfl
        · exact absurd ⟨k, hb⟩ h2
theorem altK_AF : ∀ (l out : List Nd), AF out → AF (l.foldl altAdd out)
  | [], _, h => h
  | s :: l, _, h => altK_AF l _ (h.add s)
theorem AF.nth {l : List Nd} (h : AF l) : ∀ n ∈ l, nthB n = false := by
  induction h with
  | nil => intro n hn; cases hn
  | snoc h h1 h2 h3 ih =>
    intro n hn
    rcases List.mem_append.1 hn with hn | hn
    · exact ih n hn
    · rw [List.mem_singleton.1 hn]; exact h1

/-! ### simple trees -/
def smK (h : Hd) (l : List Nd) : Prop :=
  (h.kind = 5 → h = hdV 5 ∧ 2 ≤ l.length ∧ (∀ n ∈ l, n.h.kind ≠ 5 ∧ nthB n = false) ∧ seqK l = l) ∧
  (h.kind = 6 → h = hdV 6 ∧ 2 ≤ l.length ∧ (∀ n ∈ l, n.h.kind ≠ 6) ∧ AF l) ∧
  (h.kind = 8 → h = ⟨8, noS, 0, h.min, h.max, false⟩ ∧ ∃ x, l = [x] ∧ ¬ (h.max = 0 ∨ x.h.kind = 1) ∧ ¬ (nthB x = true ∨ x.h.kind = 3 ∨ x.h.kind = 4) ∧ ¬ ((h.min = 1 ∧ h.max = 1) ∨ (x.h.kind = 8 ∧ x.h.min = 0 ∧ x.h.max = -1)))
mutual
def smN : Nd → Prop
  | .mk h l => smK h l ∧ smL l
def smL : List Nd → Prop
  | [] => True
  | n :: r => smN n ∧ smL r
end
theorem smL_iff : ∀ (l : List Nd), smL l ↔ ∀ n ∈ l, smN n
  | [] => by rw [smL]; simp
  | n :: r => by rw [smL, smL_iff r]; simp
theorem sm_mk {h : Hd} {l : List Nd} (h1 : smK h l) (h2 : ∀ n ∈ l, smN n) : smN (.mk h l) := by rw [smN]; exact ⟨h1, (smL_iff l).2 h2⟩
theorem sm_at {h : Hd} {l : List Nd} (hs : smN (.mk h l)) : smK h l ∧ ∀ n ∈ l, smN n := by rw [smN] at hs; exact ⟨hs.1, (smL_iff l).1 hs.2⟩
theorem sm_leaf {h : Hd} (hk : h.kind ≠ 5 ∧ h.kind ≠ 6 ∧ h.kind ≠ 8) : smN (.mk h []) :=
  sm_mk ⟨fun k => absurd k hk.1, fun k => absurd k hk.2.1, fun k => absurd k hk.2.2⟩ (fun _ h => by cases h)
theorem flat_self (k : Int) : ∀ (l : List Nd), (∀ n ∈ l, simpN n = n ∧ n.h.kind ≠ k) → flatL k l = l
  | [], _ => by rw [flatL]
  | n :: r, h => by
    obtain ⟨h1, h2⟩ := h n (by simp)
    rw [flatL, h1, flat_self k r (fun m hm => h m (List.mem_cons_of_mem _ hm))]
    unfold partsN
    rw [if_neg h2]
    rfl
theorem sm_fix : ∀ (n : Nd), smN n → simpN n = n := by
  refine Nd.ind fun h subs ih hs => ?_
  obtain ⟨⟨s5, s6, s8⟩, hsub⟩ := sm_at hs
  rw [simpN]
  split
  · rename_i k
    obtain ⟨e, hlen, hel, hfix⟩ := s5 k
    rw [flat_self 5 subs (fun n hn => ⟨ih n hn (hsub n hn), (hel n hn).1⟩)]
    unfold seqO
    have hn : subs.find? nthB = none := by
      rw [List.find?_eq_none]
      intro x hx
      rw [(hel x hx).2]
      decide
    rw [hn]
    simp only
    rw [hfix, e]
    match subs, hlen with
    | a :: b :: r, _ => rfl
  split
  · rename_i k
    obtain ⟨e, hlen, hel, haf⟩ := s6 k
    rw [flat_self 6 subs (fun n hn => ⟨ih n hn (hsub n hn), hel n hn⟩)]
    unfold altO
    rw [haf.fix, e]
    match subs, hlen with
    | a :: b :: r, _ => rfl
  split
  · rename_i k
    obtain ⟨e, x, rfl, h1, h2, h3⟩ := s8 k
    rw [simpL, simpL, ih x (by simp) (hsub x (by simp))]
    show repO h x = _
    unfold repO
    rw [if_neg h1, if_neg h2, if_neg h3, ← e]
  · rfl
theorem sm_parts {k : Int} {s : Nd} (h : smN s) : ∀ n ∈ partsN k s, smN n := by
  intro n hn
  unfold partsN at hn
  split at hn
  · obtain ⟨hd, l⟩ := s
    exact (sm_at h).2 n hn
  · rw [List.mem_singleton.1 hn]; exact h
theorem parts_kind {k : Int} (hk : k = 5 ∨ k = 6) {s : Nd} (h : smN s) : ∀ n ∈ partsN k s, n.h.kind ≠ k := by
  intro n hn
  unfold partsN at hn
  split at hn
  · rename_i e
    obtain ⟨hd, l⟩ := s
    obtain ⟨⟨s5, s6, _⟩, _⟩ := sm_at h
    simp only [Nd.h] at e
    rcases hk with rfl | rfl
    · exact ((s5 e).2.2.1 n hn).1
    · exact (s6 e).2.2.1 n hn
  · rename_i e
    rw [List.mem_singleton.1 hn]; exact e
theorem sm_set {n : Nd} (hk : n.h.kind = 2) (h : smN n) (p : Nat → Bool) : smN (setOf n p) := by
  obtain ⟨hd, l⟩ := n
  simp only [Nd.h] at hk
  exact sm_mk ⟨fun k => absurd (show hd.kind = 5 from k) (by omega), fun k => absurd (show hd.kind = 6 from k) (by omega), fun k => absurd (show hd.kind = 8 from k) (by omega)⟩ (sm_at h).2
theorem altK_sm : ∀ (l out : List Nd), (∀ n ∈ l, smN n ∧ n.h.kind ≠ 6) → (∀ n ∈ out, smN n ∧ n.h.kind ≠ 6) → ∀ n ∈ l.foldl altAdd out, smN n ∧ n.h.kind ≠ 6
  | [], out, _, h => h
  | s :: l, out, hl, ho => by
    rw [List.foldl_cons]
    refine altK_sm l _ (fun n hn => hl n (List.mem_cons_of_mem _ hn)) (fun n hn => ?_)
    unfold altAdd at hn
    split at hn
    · exact ho n hn
    split at hn
    · unfold joinAt at hn
      obtain ⟨o, h1, rfl⟩ := List.mem_map.1 hn
      split
      · rename_i k
        exact ⟨sm_set k (ho o h1).1 _, (ho o h1).2⟩
      · exact ho o h1
    split at hn
    · exact ho n hn
    · rcases List.mem_append.1 hn with hn | hn
      · exact ho n hn
      · rw [List.mem_singleton.1 hn]; exact hl s (by simp)
theorem sm_simp : ∀ (n : Nd), okN n → freeN n = true → smN (simpN n) := by
  refine Nd.ind fun h subs ih hok hfr => ?_
  obtain ⟨f1, f2⟩ := form_at hok.1
  obtain ⟨c1, c2⟩ := cl_at hok.2
  obtain ⟨g1, g2⟩ := free_at hfr
  have hs : ∀ n ∈ subs, smN (simpN n) := fun n hn => ih n hn ⟨f2 n hn, c2 n hn⟩ (g2 n hn)
  have hfl : ∀ k, k = 5 ∨ k = 6 → ∀ n ∈ flatL k subs, smN n ∧ n.h.kind ≠ k := fun k hk n hn => by
    obtain ⟨m, hm, hn⟩ := (flatL_mem k subs n).1 hn
    exact ⟨sm_parts (hs m hm) n hn, parts_kind hk (hs m hm) n hn⟩
  have hE : smN (.mk (hdV 1) []) := sm_leaf ⟨by decide, by decide, by decide⟩
  rw [simpN]
  split
  · unfold seqO
    cases hx : (flatL 5 subs).find? nthB with
    | some s => exact (hfl 5 (.inl rfl) s (List.mem_of_find?_eq_some hx)).1
    | none =>
      simp only
      have hnn := List.find?_eq_none.1 hx
      have hmem : ∀ n ∈ seqK (flatL 5 subs), n ∈ flatL 5 subs := fun n hn => by
        rcases seqK_mem _ [] n hn with hn | hn
        · cases hn
        · exact hn
      have hfix : seqK (seqK (flatL 5 subs)) = seqK (flatL 5 subs) := seqK_fix _ [] rfl
      match hl : seqK (flatL 5 subs), hmem, hfix with
      | [], _, _ => exact hE
      | [x], hmem, _ => exact (hfl 5 (.inl rfl) x (hmem x (by simp))).1
      | a :: b :: r, hmem, hfix =>
        exact sm_mk ⟨fun _ => ⟨rfl, by simp, fun n hn => ⟨(hfl 5 (.inl rfl) n (hmem n hn)).2, by have := hnn n (hmem n hn); simpa using this⟩, hfix⟩, fun k => absurd k (by decide), fun k => absurd k (by decide)⟩
          (fun n hn => (hfl 5 (.inl rfl) n (hmem n hn)).1)
  split
  · unfold altO
    have hel := altK_sm (flatL 6 subs) [] (hfl 6 (.inr rfl)) (fun _ h => by cases h)
    have haf := altK_AF (flatL 6 subs) [] AF.nil
    match hl : (flatL 6 subs).foldl altAdd [], hel, haf with
    | [], _, _ => exact sm_leaf ⟨by decide, by decide, by decide⟩
    | [x], hel, _ => exact (hel x (by simp)).1
    | a :: b :: r, hel, haf =>
      exact sm_mk ⟨fun k => absurd k (by decide), fun _ => ⟨rfl, by simp, fun n hn => (hel n hn).2, haf⟩, fun k => absurd k (by decide)⟩ (fun n hn => (hel n hn).1)
  split
  · rename_i k
    have := formed_single f1 (.inr k)
    match subs, this, hs with
    | [x], _, hs =>
      have hx := hs x (by simp)
      rw [simpL, simpL]
      show smN (repO h (simpN x))
      unfold repO
      split
      · exact hE
      rename_i n1
      split
      · split
        · exact hE
        · exact hx
      rename_i n2
      split
      · exact hx
      · rename_i n3
        exact sm_mk ⟨fun k => absurd k (by simp), fun k => absurd k (by simp), fun _ => ⟨rfl, _, rfl, n1, n2, n3⟩⟩ (fun n hn => by rw [List.mem_singleton.1 hn]; exact hx)
  · rename_i k5 k6 k8
    have hk := formed_kind f1
    have h0 := formed_leaf f1 (by omega)
    have : subs = [] := List.eq_nil_of_length_eq_zero h0
    subst this
    exact sm_leaf ⟨k5, k6, k8⟩
theorem norm_norm : ∀ (n : Nd), okN n → normN (normN n) = normN n := by
  refine Nd.ind fun h subs ih hok => ?_
  obtain ⟨f1, f2⟩ := form_at hok.1
  obtain ⟨c1, c2⟩ := cl_at hok.2
  cases hfr : freeN (.mk h subs)
  · have e : normN (.mk h subs) = .mk h (normL subs) := norm_head hfr
    have hf2 := norm_free _ hok.1
    rw [hfr, e] at hf2
    rw [e, norm_head hf2, normL_map, normL_map, List.map_map]
    congr 1
    exact List.map_congr_left fun n hn => ih n hn ⟨f2 n hn, c2 n hn⟩
  · have e : normN (.mk h subs) = simpN (.mk h subs) := by rw [normN, if_pos hfr]
    have hf2 := norm_free _ hok.1
    rw [hfr, e] at hf2
    rw [e]
    have hsm := sm_fix _ (sm_simp _ hok hfr)
    generalize simpN (.mk h subs) = x at *
    obtain ⟨hx, lx⟩ := x
    rw [normN, if_pos hf2, hsm]

end Go.Proofs.YtkcgbdoplhgbmaaDoor
