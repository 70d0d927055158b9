/- When a parse is one of a tree, in plain words. No program. -/
import Derived.Test.YthddlhpndaffjaaDoorPsP
import Derived.Test.YthddlhpndaffjaaDoorForm
import Derived.Test.YthddlhpndaffjaaDoorScenePlain
namespace Go.Proofs.YthddlhpndaffjaaDoor
open Go Go.RowKit

/-- What stands below a node in form. -/
theorem form_cases {h : Hd} {subs : List Nd} (hf : formB (.mk h subs) = true) :
    (h.kind = 1 ∧ subs.length = 0) ∨ (h.kind = 2 ∧ subs.length = 0) ∨ (h.kind = 3 ∧ subs.length = 0) ∨ (h.kind = 4 ∧ subs.length = 0) ∨ (h.kind = 5 ∧ 1 < subs.length) ∨ (h.kind = 6 ∧ 1 < subs.length) ∨
      (h.kind = 7 ∧ subs.length = 1 ∧ 0 < h.num ∧ h.num ≤ 999) ∨ (h.kind = 8 ∧ subs.length = 1 ∧ 0 ≤ h.min ∧ h.min ≤ 255 ∧ -1 ≤ h.max ∧ h.max ≤ 255) := by
  rw [formB, Bool.and_eq_true] at hf
  have h1 := hf.1
  unfold formedB at h1
  split at h1
  · rename_i hk
    simp only [Bool.and_eq_true, decide_eq_true_eq] at h1
    omega
  · split at h1
    · rename_i hk
      simp only [Bool.and_eq_true, decide_eq_true_eq] at h1
      omega
    · split at h1
      · rename_i hk
        simp only [Bool.and_eq_true, decide_eq_true_eq] at h1
        omega
      · split at h1
        · rename_i hk
          simp only [Bool.and_eq_true, decide_eq_true_eq] at h1
          omega
        · split at h1
          · rename_i hk
            simp only [Bool.and_eq_true, Bool.or_eq_true, decide_eq_true_eq] at h1
            omega
          · cases h1
theorem formL_memb : ∀ {l : List Nd}, formL l = true → ∀ n ∈ l, formB n = true
  | [], _, n, hn => by cases hn
  | a :: r, h, n, hn => by
    rw [formL, Bool.and_eq_true] at h
    rcases List.mem_cons.1 hn with rfl | hn
    · exact h.1
    · exact formL_memb h.2 n hn
theorem form_sub {h : Hd} {subs : List Nd} (hf : formB (.mk h subs) = true) : ∀ n ∈ subs, formB n = true := by
  rw [formB, Bool.and_eq_true] at hf
  exact formL_memb hf.2

/-- What a leaf takes. -/
def leafB (s : ByteArray) (c e : Int) (h : Hd) (a b : Int) : Bool :=
  if h.kind = 3 then decide (a = b) && srB s c e false a
  else if h.kind = 4 then decide (a = b) && srE s c e false a
  else if h.kind = 2 then decide (a < s.size) && decide (b = a + 1) && h.set (s.data.toList.getD a.toNat 0).toNat
  else decide (a = b)
def guardP (sz : Int) (kind : Int) (d : Pd) : Bool := decide (0 ≤ d.a) && decide (d.a ≤ d.b) && decide (d.b ≤ sz) && (decide (d.k = 0) || decide (kind = 6))
/-- Is none empty? -/
def fullL (l : List Ps) : Bool := l.all fun p => decide (p.d.a ≠ p.d.b)
def admB (h : Hd) (d : Pd) (ps : List Ps) : Bool :=
  decide (h.min ≤ ps.length) && (decide (h.max < 0) || decide (ps.length ≤ h.max)) && (if h.min = 0 ∧ ps.length = 1 ∧ d.a = d.b then !h.bare else fullL (ps.drop h.min.toNat))
def okB (h : Hd) (len : Nat) (d : Pd) (ps : List Ps) : Bool :=
  if h.kind = 6 then decide (ps.length = 1 ∧ 0 ≤ d.k ∧ d.k < len) else if h.kind = 7 then decide (ps.length = 1) else if h.kind = 5 then decide (ps.length = len) else admB h d ps
instance ndInh : Inhabited Nd := ⟨.mk ⟨0, fun _ => false, 0, 0, 0, false⟩ []⟩
def ndsOf (h : Hd) (subs : List Nd) (d : Pd) (n : Nat) : List Nd :=
  if h.kind = 6 then [subs.getD d.k.toNat ndInh.default] else if h.kind = 8 then List.replicate n (subs.getD 0 ndInh.default) else subs
mutual
def parseN (sz : Int) (L : Hd → Int → Int → Bool) : Ps → Nd → Bool
  | .mk d ps, .mk h subs => guardP sz h.kind d && (if 5 ≤ h.kind then okB h subs.length d ps && rowN sz L ps (ndsOf h subs d ps.length) d.a d.b else decide (ps.length = 0) && L h d.a d.b)
def rowN (sz : Int) (L : Hd → Int → Int → Bool) : List Ps → List Nd → Int → Int → Bool
  | [], _, a, b => decide (a = b)
  | _ :: _, [], _, _ => false
  | p :: r, n :: nr, a, b => decide (p.d.a = a) && parseN sz L p n && rowN sz L r nr p.d.b b
end
section
variable {sz : Int} {L : Hd → Int → Int → Bool}
theorem rowN_step {ps : List Ps} {nds : List Nd} {k : Nat} (h : k < ps.length) (h' : k < nds.length) (a b : Int) :
    rowN sz L (ps.drop k) (nds.drop k) a b = (decide (ps[k].d.a = a) && parseN sz L ps[k] nds[k] && rowN sz L (ps.drop (k + 1)) (nds.drop (k + 1)) ps[k].d.b b) := by
  rw [List.drop_eq_getElem_cons h, List.drop_eq_getElem_cons h', rowN]
theorem rowN_done {ps : List Ps} {nds : List Nd} {k : Nat} (h : ps.length ≤ k) (a b : Int) : rowN sz L (ps.drop k) (nds.drop k) a b = decide (a = b) := by
  rw [List.drop_eq_nil_of_le h, rowN]
theorem rowN_one (p : Ps) (n : Nd) (a b : Int) : rowN sz L [p] [n] a b = (decide (p.d.a = a) && parseN sz L p n && decide (p.d.b = b)) := by rw [rowN, rowN]
theorem len_one {α : Type} {l : List α} (h : l.length = 1) : ∃ x, l = [x] := by
  match l, h with
  | [x], _ => exact ⟨x, rfl⟩
end

end Go.Proofs.YthddlhpndaffjaaDoor
