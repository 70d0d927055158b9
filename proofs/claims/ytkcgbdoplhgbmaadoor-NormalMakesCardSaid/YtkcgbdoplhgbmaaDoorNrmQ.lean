/- The normal form of a tree, in plain words, whole: as the program goes and as the reference goes: the same; it is in form. No program. -/
import Derived.Test.YtkcgbdoplhgbmaaDoorNrmP
namespace Go.Proofs.YtkcgbdoplhgbmaaDoor
open Go Go.RowKit

mutual
def freeN : Nd → Bool
  | .mk h s => !decide (h.kind = 7) && freeL s
def freeL : List Nd → Bool
  | [] => true
  | n :: r => freeN n && freeL r
end
theorem freeL_iff : ∀ (l : List Nd), freeL l = true ↔ ∀ n ∈ l, freeN n = true
  | [] => by rw [freeL]; simp
  | n :: r => by rw [freeL, Bool.and_eq_true, freeL_iff r]; simp
def repO (h : Hd) (x : Nd) : Nd :=
  if h.max = 0 ∨ x.h.kind = 1 then .mk (hdV 1) []
  else if nthB x = true ∨ x.h.kind = 3 ∨ x.h.kind = 4 then (if h.min = 0 then .mk (hdV 1) [] else x)
  else if (h.min = 1 ∧ h.max = 1) ∨ (x.h.kind = 8 ∧ x.h.min = 0 ∧ x.h.max = -1) then x
  else .mk ⟨8, noS, 0, h.min, h.max, false⟩ [x]
/-- What stands in the place of a node below one of this kind. -/
def partsN (k : Int) (s : Nd) : List Nd := if s.h.kind = k then s.subs else [s]
mutual
def simpN : Nd → Nd
  | .mk h subs => if h.kind = 5 then seqO (flatL 5 subs) else if h.kind = 6 then altO (flatL 6 subs) else if h.kind = 8 then repO h (headN (simpL subs)) else .mk h subs
def simpL : List Nd → List Nd
  | [] => []
  | n :: r => simpN n :: simpL r
def flatL (k : Int) : List Nd → List Nd
  | [] => []
  | n :: r => partsN k (simpN n) ++ flatL k r
end
mutual
def normN : Nd → Nd
  | .mk h subs => if freeN (.mk h subs) = true then simpN (.mk h subs) else .mk h (normL subs)
def normL : List Nd → List Nd
  | [] => []
  | n :: r => normN n :: normL r
end
-- the reference
mutual
def refS : Nd → Nd
  | .mk h subs => if h.kind = 5 then rowR (rflatL h.kind subs) else if h.kind = 6 then choR (rflatL h.kind subs) else if h.kind = 8 then repO h (headN (rflatL h.kind subs)) else .mk h subs
def rflatL (k : Int) : List Nd → List Nd
  | [] => []
  | n :: r => (if (refS n).h.kind = k ∧ k ≠ 8 then (refS n).subs else [refS n]) ++ rflatL k r
end
mutual
def refN : Nd → Nd
  | .mk h subs => if freeN (.mk h subs) = true then refS (.mk h subs) else .mk h (refL subs)
def refL : List Nd → List Nd
  | [] => []
  | n :: r => refN n :: refL r
end
theorem simpL_map : ∀ l, simpL l = l.map simpN
  | [] => by rw [simpL]; rfl
  | n :: r => by rw [simpL, simpL_map r]; rfl
theorem normL_map : ∀ l, normL l = l.map normN
  | [] => by rw [normL]; rfl
  | n :: r => by rw [normL, normL_map r]; rfl
theorem refL_map : ∀ l, refL l = l.map refN
  | [] => by rw [refL]; rfl
  | n :: r => by rw [refL, refL_map r]; rfl
theorem flatL_app (k : Int) : ∀ a b, flatL k (a ++ b) = flatL k a ++ flatL k b
  | [], b => by simp [flatL]
  | n :: a, b => by
    show flatL k (n :: (a ++ b)) = _
    rw [flatL, flatL, flatL_app k a b, List.append_assoc]
theorem rflatL_app (k : Int) : ∀ a b, rflatL k (a ++ b) = rflatL k a ++ rflatL k b
  | [], b => by simp [rflatL]
  | n :: a, b => by
    show rflatL k (n :: (a ++ b)) = _
    rw [rflatL, rflatL, rflatL_app k a b, List.append_assoc]
theorem flatL_mem (k : Int) : ∀ (l : List Nd) (x : Nd), x ∈ flatL k l ↔ ∃ n ∈ l, x ∈ partsN k (simpN n)
  | [], x => by rw [flatL]; simp
  | n :: r, x => by rw [flatL, List.mem_append, flatL_mem k r x]; simp

/-! ### what is laid is in form -/
theorem ok_hd (k : Int) (h : k = 1 ∨ k = 2 ∨ k = 3 ∨ k = 4) : okN (.mk (hdV k) []) :=
  ⟨form_mk (formed_hdV k 0 (by omega)) (fun _ h => by cases h), cl_mk clS_no (fun _ h => by cases h)⟩
theorem ok_seqN {l : List Nd} (h : ∀ n ∈ l, okN n) : okN (seqN l) := by
  match l, h with
  | [], _ => exact ok_hd 1 (by omega)
  | [x], h => exact h x (by simp)
  | a :: b :: r, h => exact ⟨form_mk (formed_hdV 5 _ (by right; left; simp)) (fun n hn => (h n hn).1), cl_mk clS_no (fun n hn => (h n hn).2)⟩
theorem ok_altN {l : List Nd} (h : ∀ n ∈ l, okN n) : okN (altN l) := by
  match l, h with
  | [], _ => exact ok_hd 2 (by omega)
  | [x], h => exact h x (by simp)
  | a :: b :: r, h => exact ⟨form_mk (formed_hdV 6 _ (by right; left; simp)) (fun n hn => (h n hn).1), cl_mk clS_no (fun n hn => (h n hn).2)⟩
theorem seqK_mem : ∀ (l out : List Nd) (x : Nd), x ∈ l.foldl seqAdd out → x ∈ out ∨ x ∈ l
  | [], out, x, h => .inl h
  | s :: l, out, x, h => by
    rw [List.foldl_cons] at h
    rcases seqK_mem l _ x h with h | h
    · unfold seqAdd at h
      split at h
      · exact .inl h
      split at h
      · exact .inl h
      rcases List.mem_append.1 h with h | h
      · exact .inl h
      · rw [List.mem_singleton.1 h]; exact .inr (by simp)
    · exact .inr (List.mem_cons_of_mem _ h)
theorem ok_seqO {l : List Nd} (h : ∀ n ∈ l, okN n) : okN (seqO l) := by
  unfold seqO
  cases hf : l.find? nthB with
  | some s => exact h s (List.mem_of_find?_eq_some hf)
  | none =>
    refine ok_seqN fun n hn => ?_
    rcases seqK_mem l [] n hn with hn | hn
    · cases hn
    · exact h n hn
theorem ok_set {n : Nd} (h : okN n) (hk : n.h.kind = 2) {p : Nat → Bool} (hp : clS p) : okN (setOf n p) := by
  obtain ⟨hd, l⟩ := n
  obtain ⟨h1, h2, h3, h4, h5⟩ := formed_bytes (form_at h.1).1 hk
  have hl : l = [] := List.eq_nil_of_length_eq_zero h5
  subst hl
  have hf : formedB { hd with set := p } ([] : List Nd).length = true := by
    unfold formedB
    simp only [Nd.h] at hk
    rw [if_neg (by simp only; omega), if_pos hk]
    simp [h1, h2, h3, h4]
  exact ⟨form_mk hf (fun _ h => by cases h), cl_mk hp (fun _ h => by cases h)⟩
theorem clS_or {p q : Nat → Bool} (hp : clS p) (hq : clS q) : clS (orS p q) := fun b hb => by unfold orS; rw [hp b hb, hq b hb]; rfl
theorem altK_ok : ∀ (l out : List Nd), (∀ n ∈ l, okN n) → (∀ n ∈ out, okN n) → ∀ n ∈ l.foldl altAdd out, okN n
  | [], out, _, h => h
  | s :: l, out, hl, ho => by
    rw [List.foldl_cons]
    refine altK_ok l _ (fun n hn => hl n (List.mem_cons_of_mem _ hn)) (fun n hn => ?_)
    have hs := hl s (by simp)
    unfold altAdd at hn
    split at hn
    · exact ho n hn
    split at hn
    · unfold joinAt at hn
      obtain ⟨o, h1, rfl⟩ := List.mem_map.1 hn
      split
      · rename_i k
        refine ok_set (ho o h1) k (clS_or ?_ ?_)
        · have := (ho o h1).2
          obtain ⟨a, b⟩ := o
          exact this.1
        · have := hs.2
          obtain ⟨a, b⟩ := s
          exact this.1
      · exact ho o h1
    split at hn
    · exact ho n hn
    · rcases List.mem_append.1 hn with hn | hn
      · exact ho n hn
      · rw [List.mem_singleton.1 hn]; exact hs
theorem ok_altO {l : List Nd} (h : ∀ n ∈ l, okN n) : okN (altO l) := ok_altN (altK_ok l [] h (fun _ h => by cases h))
theorem ok_repO {h : Hd} {len : Nat} (hf : formedB h len = true) (hk : h.kind = 8) {x : Nd} (hx : okN x) : okN (repO h x) := by
  unfold repO
  split
  · exact ok_hd 1 (by omega)
  split
  · split
    · exact ok_hd 1 (by omega)
    · exact hx
  split
  · exact hx
  · obtain ⟨h1, h2, h3⟩ := formed_rep hf hk
    refine ⟨form_mk ?_ (fun n hn => by rw [List.mem_singleton.1 hn]; exact hx.1), cl_mk clS_no (fun n hn => by rw [List.mem_singleton.1 hn]; exact hx.2)⟩
    unfold formedB
    simp only
    rw [if_neg (by omega), if_neg (by omega), if_neg (by omega), if_neg (by omega), if_pos trivial]
    simp only [zeroS_no, List.length_singleton, Bool.and_eq_true, Bool.or_eq_true, decide_eq_true_eq]
    refine ⟨⟨⟨⟨⟨⟨trivial, trivial⟩, trivial⟩, h1⟩, h2⟩, rfl⟩, h3⟩
theorem ok_parts {k : Int} {s : Nd} (h : okN s) : ∀ n ∈ partsN k s, okN n := by
  intro n hn
  unfold partsN at hn
  split at hn
  · obtain ⟨hd, l⟩ := s
    exact ⟨(form_at h.1).2 n hn, (cl_at h.2).2 n hn⟩
  · rw [List.mem_singleton.1 hn]; exact h
theorem ok_simp : ∀ (n : Nd), okN n → okN (simpN n) := by
  refine Nd.ind fun h subs ih hok => ?_
  obtain ⟨hf, hc⟩ := hok
  obtain ⟨f1, f2⟩ := form_at hf
  obtain ⟨c1, c2⟩ := cl_at hc
  have hs : ∀ n ∈ subs, okN (simpN n) := fun n hn => ih n hn ⟨f2 n hn, c2 n hn⟩
  rw [simpN]
  split
  · refine ok_seqO fun n hn => ?_
    obtain ⟨m, hm, hn⟩ := (flatL_mem 5 subs n).1 hn
    exact ok_parts (hs m hm) n hn
  split
  · refine ok_altO fun n hn => ?_
    obtain ⟨m, hm, hn⟩ := (flatL_mem 6 subs n).1 hn
    exact ok_parts (hs m hm) n hn
  split
  · rename_i k
    refine ok_repO f1 k ?_
    have := formed_single f1 (.inr k)
    match subs, this with
    | [x], _ => rw [simpL, simpL]; exact hs x (by simp)
  · exact ⟨hf, hc⟩
theorem norm_head {h : Hd} {subs : List Nd} (hf : freeN (.mk h subs) = false) : normN (.mk h subs) = .mk h (normL subs) := by rw [normN, if_neg (by rw [hf]; decide)]
theorem ok_norm : ∀ (n : Nd), okN n → okN (normN n) := by
  refine Nd.ind fun h subs ih hok => ?_
  rw [normN]
  split
  · exact ok_simp _ hok
  · obtain ⟨f1, f2⟩ := form_at hok.1
    obtain ⟨c1, c2⟩ := cl_at hok.2
    rw [normL_map]
    refine ⟨form_mk (by rw [List.length_map]; exact f1) (fun n hn => ?_), cl_mk c1 (fun n hn => ?_)⟩
    · obtain ⟨m, hm, rfl⟩ := List.mem_map.1 hn
      exact (ih m hm ⟨f2 m hm, c2 m hm⟩).1
    · obtain ⟨m, hm, rfl⟩ := List.mem_map.1 hn
      exact (ih m hm ⟨f2 m hm, c2 m hm⟩).2

/-! ### the reference's is the same -/
theorem simp_ref : ∀ (n : Nd), okN n → simpN n = refS n := by
  refine Nd.ind fun h subs ih hok => ?_
  obtain ⟨hf, hc⟩ := hok
  obtain ⟨f1, f2⟩ := form_at hf
  obtain ⟨c1, c2⟩ := cl_at hc
  have hs : ∀ n ∈ subs, okN (simpN n) := fun n hn => ok_simp n ⟨f2 n hn, c2 n hn⟩
  have he : ∀ n ∈ subs, simpN n = refS n := fun n hn => ih n hn ⟨f2 n hn, c2 n hn⟩
  have hfl : ∀ (k : Int), k ≠ 8 → ∀ (l : List Nd), (∀ n ∈ l, n ∈ subs) → flatL k l = rflatL k l := by
    intro k hk l
    induction l with
    | nil => intro _; rw [flatL, rflatL]
    | cons n r ihr =>
      intro hl
      rw [flatL, rflatL, ihr (fun m hm => hl m (List.mem_cons_of_mem _ hm)), he n (hl n (by simp))]
      congr 1
      unfold partsN
      by_cases k1 : (refS n).h.kind = k
      · rw [if_pos k1, if_pos ⟨k1, hk⟩]
      · rw [if_neg k1, if_neg (fun h => k1 h.1)]
  rw [simpN, refS]
  by_cases k5 : h.kind = 5
  · rw [if_pos k5, if_pos k5, k5, ← hfl 5 (by decide) subs (fun _ h => h)]
    refine seq_row fun n hn => ?_
    obtain ⟨m, hm, hn⟩ := (flatL_mem 5 subs n).1 hn
    exact ok_parts (hs m hm) n hn
  rw [if_neg k5, if_neg k5]
  by_cases k6 : h.kind = 6
  · rw [if_pos k6, if_pos k6, k6, ← hfl 6 (by decide) subs (fun _ h => h)]
    refine alt_choice fun n hn => ?_
    obtain ⟨m, hm, hn⟩ := (flatL_mem 6 subs n).1 hn
    exact ok_parts (hs m hm) n hn
  rw [if_neg k6, if_neg k6]
  by_cases k8 : h.kind = 8
  · rw [if_pos k8, if_pos k8, k8]
    have := formed_single f1 (.inr k8)
    match subs, this, he with
    | [x], _, he =>
      rw [simpL, simpL, rflatL, rflatL, he x (by simp), if_neg (fun h => h.2 rfl)]
      rfl
  rw [if_neg k8, if_neg k8]
theorem norm_ref : ∀ (n : Nd), okN n → normN n = refN n := by
  refine Nd.ind fun h subs ih hok => ?_
  rw [normN, refN]
  split
  · exact simp_ref _ hok
  · obtain ⟨f1, f2⟩ := form_at hok.1
    obtain ⟨c1, c2⟩ := cl_at hok.2
    rw [normL_map, refL_map]
    congr 1
    exact List.map_congr_left fun n hn => ih n hn ⟨f2 n hn, c2 n hn⟩

end Go.Proofs.YtkcgbdoplhgbmaaDoor
