/- What a tree takes: pieces of the subject alone; trees one behind the other, forwards and backwards, step by step. No program. -/
import Derived.Test.YtgfknlkpdiejgaaDoorLdP
namespace Go.Proofs.YtgfknlkpdiejgaaDoor

/-- Forwards alone; and but for standing still, within the subject. -/
def Mon (n : Nat) (R : Rl) : Prop := ∀ a b, R a b → a ≤ b ∧ (a = b ∨ (0 ≤ a ∧ b ≤ n))
theorem Mon.inn {n : Nat} {R : Rl} (h : Mon n R) : Inn n R := fun a b h1 h2 hR => by
  have := h a b hR
  omega
theorem Mon.innB {n : Nat} {R : Rl} (h : Mon n R) : Inn n R.flip := fun a b h1 h2 hR => by
  have := h b a hR
  omega
theorem Mon.id (n : Nat) : Mon n Rl.id := fun a b h => by
  have : a = b := h
  omega
theorem Mon.seq {n : Nat} {R S : Rl} (h : Mon n R) (k : Mon n S) : Mon n (Rl.seq R S) := fun a b ⟨c, h1, h2⟩ => by
  have := h a c h1
  have := k c b h2
  omega
theorem Mon.pw {n : Nat} {R : Rl} (h : Mon n R) : ∀ k, Mon n (pw R k)
  | 0 => Mon.id n
  | k + 1 => h.seq (Mon.pw h k)
theorem Mon.rp {n : Nat} {R : Rl} (h : Mon n R) (mn mx : Int) : Mon n (rpR R mn mx) := fun a b ⟨k, _, _, h3⟩ => h.pw k a b h3
def LOk (n : Nat) (L : Hd → Int → Int → Bool) : Prop := ∀ h a b, L h a b = true → 0 ≤ a ∧ a ≤ b ∧ b ≤ n
section
variable {n : Nat} {L : Hd → Int → Int → Bool}
mutual
theorem tkN_mon (hL : LOk n L) : ∀ t : Nd, Mon n (tkN L t)
  | .mk h subs => fun a b hR => by
    rw [tkN] at hR
    split at hR
    · exact tkS_mon hL subs a b hR
    · split at hR
      · exact tkA_mon hL subs a b hR
      · split at hR
        · exact Mon.rp (tkA_mon hL subs) h.min h.max a b hR
        · have := hL h a b hR
          omega
theorem tkS_mon (hL : LOk n L) : ∀ l : List Nd, Mon n (tkS L l)
  | [] => fun a b hR => by
    rw [tkS] at hR
    exact Mon.id n a b hR
  | t :: r => fun a b hR => by
    rw [tkS] at hR
    exact (tkN_mon hL t).seq (tkS_mon hL r) a b hR
theorem tkA_mon (hL : LOk n L) : ∀ l : List Nd, Mon n (tkA L l)
  | [] => fun a b hR => by
    rw [tkA] at hR
    exact hR.elim
  | t :: r => fun a b hR => by
    rw [tkA] at hR
    exact hR.elim (tkN_mon hL t a b) (tkA_mon hL r a b)
end
/-- Forwards, or backwards. -/
def dirR (back : Bool) (R : Rl) : Rl := if back then R.flip else R
theorem dirR_inn {R : Rl} (h : Mon n R) (back : Bool) : Inn n (dirR back R) := by
  cases back with
  | false => exact h.inn
  | true => exact h.innB
theorem dir_id (back : Bool) (p : Pl) : img (dirR back Rl.id) p = p := by
  cases back with
  | false => exact img_id p
  | true =>
    have e : (dirR true Rl.id) = Rl.id := by funext a b; exact propext ⟨Eq.symm, Eq.symm⟩
    rw [e, img_id]
theorem dir_congr (back : Bool) {R S : Rl} (h : ∀ a b, R a b ↔ S a b) : dirR back R = dirR back S := by
  have e : R = S := by funext a b; exact propext (h a b)
  rw [e]
theorem dir_rp (back : Bool) (R : Rl) (mn mx : Int) : dirR back (rpR R mn mx) = rpR (dirR back R) mn mx := by
  cases back with
  | false => rfl
  | true => funext a b; exact propext (rpR_flip R mn mx a b).symm
/-- The trees that so many steps have gone over: the first ones, or the last ones. -/
def gone (back : Bool) (l : List Nd) (i : Nat) : List Nd := if back then l.drop (l.length - i) else l.take i
def nextOf (back : Bool) (len i : Nat) : Nat := if back then len - 1 - i else i
theorem gone_zero (back : Bool) (l : List Nd) : gone back l 0 = [] := by cases back <;> simp [gone]
theorem gone_all (back : Bool) (l : List Nd) : gone back l l.length = l := by cases back <;> simp [gone]
theorem parts_step (hL : LOk n L) (back : Bool) (l : List Nd) (i : Nat) (hi : i < l.length) (hk : nextOf back l.length i < l.length) {p : Pl} (hp : PlN n p) :
    img (dirR back (tkS L (gone back l (i + 1)))) p = img (dirR back (tkN L l[nextOf back l.length i])) (img (dirR back (tkS L (gone back l i))) p) := by
  cases back with
  | false =>
    have e : gone false l (i + 1) = gone false l i ++ [l[i]] := by
      show l.take (i + 1) = l.take i ++ [l[i]]
      rw [List.take_add_one, List.getElem?_eq_getElem hi]
      rfl
    rw [e]
    show img (tkS L (gone false l i ++ [l[i]])) p = img (tkN L l[i]) (img (tkS L (gone false l i)) p)
    rw [← img_seq hp (tkS_mon hL _).inn]
    refine img_congr hp fun a b _ _ _ => ?_
    rw [tkS_app]
    simp only [tkS_one]
    rfl
  | true =>
    have e : gone true l (i + 1) = l[l.length - 1 - i] :: gone true l i := by
      show l.drop (l.length - (i + 1)) = _ :: l.drop (l.length - i)
      rw [show l.length - (i + 1) = l.length - 1 - i by omega, List.drop_eq_getElem_cons (by omega), show l.length - 1 - i + 1 = l.length - i by omega]
      rfl
    rw [e]
    show img (Rl.flip (tkS L (l[l.length - 1 - i] :: gone true l i))) p = img (Rl.flip (tkN L l[l.length - 1 - i])) (img (Rl.flip (tkS L (gone true l i))) p)
    rw [← img_seq hp (tkS_mon hL _).innB]
    refine img_congr hp fun a b _ _ _ => ?_
    show tkS L (_ :: _) b a ↔ _
    rw [tkS]
    constructor
    · rintro ⟨c, h1, h2⟩; exact ⟨c, h2, h1⟩
    · rintro ⟨c, h1, h2⟩; exact ⟨c, h2, h1⟩
theorem alt_step (back : Bool) (l : List Nd) (i : Nat) (hi : i < l.length) (p : Pl) :
    img (dirR back (tkA L (l.take (i + 1)))) p = orP (img (dirR back (tkA L (l.take i))) p) (img (dirR back (tkN L l[i])) p) := by
  have e : dirR back (tkA L (l.take (i + 1))) = Rl.alt (dirR back (tkA L (l.take i))) (dirR back (tkN L l[i])) := by
    have h : ∀ a b, tkA L (l.take (i + 1)) a b ↔ tkA L (l.take i) a b ∨ tkN L l[i] a b := fun a b => by
      rw [tkA_iff, tkA_iff, List.take_add_one, List.getElem?_eq_getElem hi]
      simp only [List.mem_append, Option.toList, List.mem_singleton]
      constructor
      · rintro ⟨m, h1 | h1, h2⟩
        · exact .inl ⟨m, h1, h2⟩
        · exact .inr (h1 ▸ h2)
      · rintro (⟨m, h1, h2⟩ | h)
        · exact ⟨m, .inl h1, h2⟩
        · exact ⟨_, .inr rfl, h⟩
    funext a b
    cases back with
    | false => exact propext (h a b)
    | true => exact propext (h b a)
  rw [e, img_alt]
theorem alt_none (back : Bool) (p : Pl) : img (dirR back (tkA L [])) p = noP := pl_ext fun j => by
  rw [img_iff]
  constructor
  · rintro ⟨i, _, h⟩
    cases back with
    | false => exact (by rw [show dirR false (tkA L []) i j = tkA L [] i j from rfl, tkA] at h; exact h.elim)
    | true => exact (by rw [show dirR true (tkA L []) i j = tkA L [] j i from rfl, tkA] at h; exact h.elim)
  · intro h; cases h
/-- A leaf's step, place by place. -/
theorem leaf_img (h : Hd) (subs : List Nd) (hk : ¬ (5 ≤ h.kind ∧ h.kind ≤ 8)) (a b : Int) : tkN L (.mk h subs) a b ↔ L h a b = true := by
  rw [tkN, if_neg (by omega), if_neg (by omega), if_neg (by omega)]
theorem tk_seq (h : Hd) (subs : List Nd) (hk : h.kind = 5) (a b : Int) : tkN L (.mk h subs) a b ↔ tkS L subs a b := by
  rw [tkN, if_pos hk]
theorem tk_alt (h : Hd) (subs : List Nd) (hk : h.kind = 6) (a b : Int) : tkN L (.mk h subs) a b ↔ tkA L subs a b := by
  rw [tkN, if_neg (by omega), if_pos (.inl hk)]
theorem tk_group (h : Hd) (s : Nd) (hk : h.kind = 7) (a b : Int) : tkN L (.mk h [s]) a b ↔ tkN L s a b := by
  rw [tkN, if_neg (by omega), if_pos (.inr hk), tkA_one]
theorem tk_rep (h : Hd) (s : Nd) (hk : h.kind = 8) (a b : Int) : tkN L (.mk h [s]) a b ↔ rpR (tkN L s) h.min h.max a b := by
  rw [tkN, if_neg (by omega), if_neg (by omega), if_pos hk]
  have e : (fun x y => tkA L [s] x y) = tkN L s := by funext x y; exact propext (tkA_one L s x y)
  rw [e]
end

end Go.Proofs.YtgfknlkpdiejgaaDoor
