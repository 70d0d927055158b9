/- What a tree takes, in plain words: relations of places, sets of places led on, forwards and backwards; a repeat's rounds. No program. -/
import Derived.Test.YtgfknlkpdiejgaaDoorNodeP
namespace Go.Proofs.YtgfknlkpdiejgaaDoor
open Classical

/-! ### relations of places -/
abbrev Rl := Int → Int → Prop
def Rl.id : Rl := fun a b => a = b
def Rl.seq (R S : Rl) : Rl := fun a b => ∃ c, R a c ∧ S c b
def Rl.alt (R S : Rl) : Rl := fun a b => R a b ∨ S a b
def Rl.flip (R : Rl) : Rl := fun a b => R b a
/-- So many times, one behind the other. -/
def pw (R : Rl) : Nat → Rl
  | 0 => Rl.id
  | k + 1 => Rl.seq R (pw R k)
theorem pw_snoc (R : Rl) : ∀ k a b, pw R (k + 1) a b ↔ Rl.seq (pw R k) R a b
  | 0, a, b => by
    constructor
    · rintro ⟨c, h1, h2⟩
      exact ⟨a, rfl, by rw [← (show c = b from h2)]; exact h1⟩
    · rintro ⟨c, h1, h2⟩
      exact ⟨b, by rw [(show a = c from h1)]; exact h2, rfl⟩
  | k + 1, a, b => by
    constructor
    · rintro ⟨c, h1, h2⟩
      obtain ⟨d, h3, h4⟩ := (pw_snoc R k c b).1 h2
      exact ⟨d, ⟨c, h1, h3⟩, h4⟩
    · rintro ⟨d, ⟨c, h1, h3⟩, h4⟩
      exact ⟨c, h1, (pw_snoc R k c b).2 ⟨d, h3, h4⟩⟩
theorem pw_flip (R : Rl) : ∀ k a b, pw R.flip k a b ↔ pw R k b a
  | 0, a, b => ⟨Eq.symm, Eq.symm⟩
  | k + 1, a, b => by
    rw [pw_snoc R k b a]
    constructor
    · rintro ⟨c, h1, h2⟩
      exact ⟨c, (pw_flip R k c b).1 h2, h1⟩
    · rintro ⟨c, h1, h2⟩
      exact ⟨c, h2, (pw_flip R k c b).2 h1⟩
theorem pw_add (R : Rl) : ∀ i j a b, pw R (i + j) a b ↔ ∃ c, pw R i a c ∧ pw R j c b
  | 0, j, a, b => by
    rw [Nat.zero_add]
    constructor
    · intro h; exact ⟨a, rfl, h⟩
    · rintro ⟨c, rfl, h⟩; exact h
  | i + 1, j, a, b => by
    rw [show i + 1 + j = (i + j) + 1 by omega]
    constructor
    · rintro ⟨c, h1, h2⟩
      obtain ⟨d, h3, h4⟩ := (pw_add R i j c b).1 h2
      exact ⟨d, ⟨c, h1, h3⟩, h4⟩
    · rintro ⟨d, ⟨c, h1, h3⟩, h4⟩
      exact ⟨c, h1, (pw_add R i j c b).2 ⟨d, h3, h4⟩⟩
/-- A repeat: from least to most rounds (most < 0: as many as one likes). -/
def rpR (R : Rl) (mn mx : Int) : Rl := fun a b => ∃ k : Nat, mn ≤ k ∧ (mx < 0 ∨ (k : Int) ≤ mx) ∧ pw R k a b
theorem rpR_flip (R : Rl) (mn mx a b : Int) : rpR R.flip mn mx a b ↔ rpR R mn mx b a := by
  unfold rpR
  constructor
  · rintro ⟨k, h1, h2, h3⟩; exact ⟨k, h1, h2, (pw_flip R k a b).1 h3⟩
  · rintro ⟨k, h1, h2, h3⟩; exact ⟨k, h1, h2, (pw_flip R k a b).2 h3⟩
section
variable (L : Hd → Int → Int → Bool)
mutual
/-- The pieces that a tree takes; L: what a leaf takes. -/
def tkN : Nd → Int → Int → Prop
  | .mk h subs, a, b => if h.kind = 5 then tkS subs a b else if h.kind = 6 ∨ h.kind = 7 then tkA subs a b else if h.kind = 8 then rpR (fun x y => tkA subs x y) h.min h.max a b else L h a b = true
/-- .. trees one behind the other. -/
def tkS : List Nd → Int → Int → Prop
  | [], a, b => a = b
  | n :: r, a, b => ∃ c, tkN n a c ∧ tkS r c b
/-- .. one of some trees. -/
def tkA : List Nd → Int → Int → Prop
  | [], _, _ => False
  | n :: r, a, b => tkN n a b ∨ tkA r a b
end
theorem tkA_one (n : Nd) (a b : Int) : tkA L [n] a b ↔ tkN L n a b := by rw [tkA, tkA]; simp
theorem tkA_iff : ∀ (l : List Nd) (a b : Int), tkA L l a b ↔ ∃ n ∈ l, tkN L n a b
  | [], a, b => by rw [tkA]; simp
  | n :: r, a, b => by rw [tkA, tkA_iff r a b]; simp
theorem tkS_app : ∀ (l r : List Nd) (a b : Int), tkS L (l ++ r) a b ↔ ∃ c, tkS L l a c ∧ tkS L r c b
  | [], r, a, b => by
    simp only [List.nil_append]
    constructor
    · intro h; exact ⟨a, by rw [tkS], h⟩
    · rintro ⟨c, h1, h2⟩
      rw [tkS] at h1
      rw [h1]
      exact h2
  | n :: l, r, a, b => by
    rw [List.cons_append, tkS]
    constructor
    · rintro ⟨c, h1, h2⟩
      obtain ⟨d, h3, h4⟩ := (tkS_app l r c b).1 h2
      exact ⟨d, by rw [tkS]; exact ⟨c, h1, h3⟩, h4⟩
    · rintro ⟨d, h1, h2⟩
      rw [tkS] at h1
      obtain ⟨c, h3, h4⟩ := h1
      exact ⟨c, h3, (tkS_app l r c b).2 ⟨d, h4, h2⟩⟩
theorem tkS_one (n : Nd) (a b : Int) : tkS L [n] a b ↔ tkN L n a b := by
  rw [tkS]
  constructor
  · rintro ⟨c, h1, h2⟩; rw [tkS] at h2; rw [← h2]; exact h1
  · intro h; exact ⟨b, h, by rw [tkS]⟩
end

/-! ### sets of places -/
abbrev Pl := Nat → Bool
noncomputable def img (R : Rl) (p : Pl) : Pl := fun j => decide (∃ i : Nat, p i = true ∧ R i j)
def orP (p q : Pl) : Pl := fun i => p i || q i
def lessP (p q : Pl) : Pl := fun i => p i && !q i
def noP : Pl := fun _ => false
def oneP (i : Nat) : Pl := fun j => decide (j = i)
theorem img_iff {R : Rl} {p : Pl} {j : Nat} : img R p j = true ↔ ∃ i : Nat, p i = true ∧ R i j := by unfold img; rw [decide_eq_true_eq]
theorem pl_ext {p q : Pl} (h : ∀ j, p j = true ↔ q j = true) : p = q := by
  funext j
  rw [Bool.eq_iff_iff]
  exact h j
/-- A relation leads from places to places of the subject alone. -/
def Inn (n : Nat) (R : Rl) : Prop := ∀ a b : Int, 0 ≤ a → a ≤ n → R a b → 0 ≤ b ∧ b ≤ n
def PlN (n : Nat) (p : Pl) : Prop := ∀ i, p i = true → i ≤ n
theorem Inn.id (n : Nat) : Inn n Rl.id := fun a b h1 h2 h => by rw [← (show a = b from h)]; exact ⟨h1, h2⟩
theorem Inn.pw {n : Nat} {R : Rl} (h : Inn n R) : ∀ k, Inn n (pw R k)
  | 0 => Inn.id n
  | k + 1 => fun a b h1 h2 ⟨c, h3, h4⟩ => by
    obtain ⟨h5, h6⟩ := h a c h1 h2 h3
    exact Inn.pw h k c b h5 h6 h4
theorem Inn.rp {n : Nat} {R : Rl} (h : Inn n R) (mn mx : Int) : Inn n (rpR R mn mx) := fun a b h1 h2 ⟨k, _, _, h3⟩ => h.pw k a b h1 h2 h3
theorem PlN.img {n : Nat} {R : Rl} {p : Pl} (hp : PlN n p) (hR : Inn n R) : PlN n (img R p) := fun j hj => by
  obtain ⟨i, h1, h2⟩ := img_iff.1 hj
  have := hR i j (by omega) (by have := hp i h1; omega) h2
  omega
theorem PlN.or {n : Nat} {p q : Pl} (hp : PlN n p) (hq : PlN n q) : PlN n (orP p q) := fun i hi => by
  unfold orP at hi
  rw [Bool.or_eq_true] at hi
  exact hi.elim (hp i) (hq i)
theorem PlN.less {n : Nat} {p q : Pl} (hp : PlN n p) : PlN n (lessP p q) := fun i hi => by
  unfold lessP at hi
  rw [Bool.and_eq_true] at hi
  exact hp i hi.1
theorem PlN.no (n : Nat) : PlN n noP := fun i hi => by cases hi
theorem PlN.one {n i : Nat} (h : i ≤ n) : PlN n (oneP i) := fun j hj => by
  unfold oneP at hj
  rw [decide_eq_true_eq] at hj
  omega
theorem img_id (p : Pl) : img Rl.id p = p := pl_ext fun j => by
  rw [img_iff]
  constructor
  · rintro ⟨i, h1, h2⟩
    have : i = j := by have h3 : (i : Int) = j := h2; omega
    rwa [← this]
  · intro h; exact ⟨j, h, rfl⟩
theorem img_no (R : Rl) : img R noP = noP := pl_ext fun j => by
  rw [img_iff]
  constructor
  · rintro ⟨i, h1, _⟩; cases h1
  · intro h; cases h
theorem img_or (R : Rl) (p q : Pl) : img R (orP p q) = orP (img R p) (img R q) := pl_ext fun j => by
  rw [img_iff]
  unfold orP
  rw [Bool.or_eq_true, img_iff, img_iff]
  constructor
  · rintro ⟨i, h1, h2⟩
    rw [Bool.or_eq_true] at h1
    exact h1.elim (fun h => .inl ⟨i, h, h2⟩) (fun h => .inr ⟨i, h, h2⟩)
  · rintro (⟨i, h1, h2⟩ | ⟨i, h1, h2⟩)
    · exact ⟨i, by rw [h1]; rfl, h2⟩
    · exact ⟨i, by rw [h1, Bool.or_true], h2⟩
theorem img_alt (R S : Rl) (p : Pl) : img (Rl.alt R S) p = orP (img R p) (img S p) := pl_ext fun j => by
  rw [img_iff]
  unfold orP
  rw [Bool.or_eq_true, img_iff, img_iff]
  constructor
  · rintro ⟨i, h1, h2⟩
    exact h2.elim (fun h => .inl ⟨i, h1, h⟩) (fun h => .inr ⟨i, h1, h⟩)
  · rintro (⟨i, h1, h2⟩ | ⟨i, h1, h2⟩)
    · exact ⟨i, h1, .inl h2⟩
    · exact ⟨i, h1, .inr h2⟩
theorem img_seq {n : Nat} {R S : Rl} {p : Pl} (hp : PlN n p) (hR : Inn n R) : img (Rl.seq R S) p = img S (img R p) := pl_ext fun j => by
  rw [img_iff, img_iff]
  constructor
  · rintro ⟨i, h1, c, h2, h3⟩
    have h4 := hR i c (by omega) (by have := hp i h1; omega) h2
    refine ⟨c.toNat, img_iff.2 ⟨i, h1, ?_⟩, ?_⟩
    · rw [Int.toNat_of_nonneg h4.1]; exact h2
    · rw [Int.toNat_of_nonneg h4.1]; exact h3
  · rintro ⟨c, h1, h2⟩
    obtain ⟨i, h3, h4⟩ := img_iff.1 h1
    exact ⟨i, h3, c, h4, h2⟩
theorem img_congr {n : Nat} {R S : Rl} {p : Pl} (hp : PlN n p) (h : ∀ a b : Int, 0 ≤ a → a ≤ n → 0 ≤ b → (R a b ↔ S a b)) : img R p = img S p := pl_ext fun j => by
  rw [img_iff, img_iff]
  constructor
  · rintro ⟨i, h1, h2⟩
    exact ⟨i, h1, (h i j (by omega) (by have := hp i h1; omega) (by omega)).1 h2⟩
  · rintro ⟨i, h1, h2⟩
    exact ⟨i, h1, (h i j (by omega) (by have := hp i h1; omega) (by omega)).2 h2⟩
theorem img_pw {n : Nat} {R : Rl} (hR : Inn n R) {p : Pl} (hp : PlN n p) (k : Nat) : img (pw R (k + 1)) p = img R (img (pw R k) p) := by
  rw [← img_seq hp (hR.pw k)]
  exact img_congr hp fun a b _ _ _ => pw_snoc R k a b

/-! ### a repeat's rounds: k rounds more at most -/
noncomputable def upP (R : Rl) (q : Pl) (k : Nat) : Pl := fun j => decide (∃ m, m ≤ k ∧ img (pw R m) q j = true)
theorem up_iff {R : Rl} {q : Pl} {k j : Nat} : upP R q k j = true ↔ ∃ m, m ≤ k ∧ img (pw R m) q j = true := by unfold upP; rw [decide_eq_true_eq]
/-- What the k-th round leads to first. -/
noncomputable def newP (R : Rl) (q : Pl) : Nat → Pl
  | 0 => q
  | k + 1 => lessP (upP R q (k + 1)) (upP R q k)
theorem up_zero (R : Rl) (q : Pl) : upP R q 0 = q := pl_ext fun j => by
  rw [up_iff]
  constructor
  · rintro ⟨m, hm, h⟩
    obtain rfl : m = 0 := by omega
    rwa [show pw R 0 = Rl.id from rfl, img_id] at h
  · intro h
    exact ⟨0, Nat.le_refl _, by rw [show pw R 0 = Rl.id from rfl, img_id]; exact h⟩
theorem up_mono {R : Rl} {q : Pl} {k k' j : Nat} (h : k ≤ k') (hj : upP R q k j = true) : upP R q k' j = true := by
  obtain ⟨m, hm, h1⟩ := up_iff.1 hj
  exact up_iff.2 ⟨m, by omega, h1⟩
theorem PlN.up {n : Nat} {R : Rl} {q : Pl} (hR : Inn n R) (hq : PlN n q) (k : Nat) : PlN n (upP R q k) := fun j hj => by
  obtain ⟨m, _, h⟩ := up_iff.1 hj
  exact hq.img (hR.pw m) j h
theorem PlN.new {n : Nat} {R : Rl} {q : Pl} (hR : Inn n R) (hq : PlN n q) : ∀ k, PlN n (newP R q k)
  | 0 => hq
  | k + 1 => (hq.up hR (k + 1)).less
theorem new_up {R : Rl} {q : Pl} {k j : Nat} (h : newP R q k j = true) : upP R q k j = true := by
  cases k with
  | zero => rw [up_zero]; exact h
  | succ k =>
    unfold newP lessP at h
    rw [Bool.and_eq_true] at h
    exact h.1
/-- The round: what is led to from the new places, without what is there already. -/
theorem round_new {n : Nat} {R : Rl} (hR : Inn n R) {q : Pl} (hq : PlN n q) (k : Nat) : lessP (img R (newP R q k)) (upP R q k) = newP R q (k + 1) := pl_ext fun j => by
  unfold newP lessP
  simp only [Bool.and_eq_true, Bool.not_eq_true']
  constructor
  · rintro ⟨h1, h2⟩
    refine ⟨?_, h2⟩
    obtain ⟨i, h3, h4⟩ := img_iff.1 h1
    obtain ⟨m, hm, h5⟩ := up_iff.1 (new_up h3)
    exact up_iff.2 ⟨m + 1, by omega, by rw [img_pw hR hq]; exact img_iff.2 ⟨i, h5, h4⟩⟩
  · rintro ⟨h1, h2⟩
    refine ⟨?_, h2⟩
    obtain ⟨m, hm, h5⟩ := up_iff.1 h1
    have hm' : m = k + 1 := by
      rcases Nat.lt_or_ge k m with h | h
      · omega
      · rw [up_iff.2 ⟨m, h, h5⟩] at h2; cases h2
    subst hm'
    rw [img_pw hR hq] at h5
    obtain ⟨i, h6, h7⟩ := img_iff.1 h5
    refine img_iff.2 ⟨i, ?_, h7⟩
    cases k with
    | zero => rw [show pw R 0 = Rl.id from rfl, img_id] at h6; exact h6
    | succ k =>
      show lessP _ _ i = true
      unfold lessP
      rw [Bool.and_eq_true, Bool.not_eq_true']
      refine ⟨up_iff.2 ⟨k + 1, Nat.le_refl _, h6⟩, ?_⟩
      rw [Bool.eq_false_iff]
      intro h8
      obtain ⟨m, hm, h9⟩ := up_iff.1 h8
      have : upP R q (k + 1) j = true := up_iff.2 ⟨m + 1, by omega, by rw [img_pw hR hq]; exact img_iff.2 ⟨i, h9, h7⟩⟩
      rw [this] at h2
      cases h2
theorem round_up (R : Rl) (q : Pl) (k : Nat) : orP (upP R q k) (newP R q (k + 1)) = upP R q (k + 1) := pl_ext fun j => by
  unfold orP newP lessP
  simp only [Bool.or_eq_true, Bool.and_eq_true, Bool.not_eq_true']
  constructor
  · rintro (h | h)
    · exact up_mono (by omega) h
    · exact h.1
  · intro h
    cases h2 : upP R q k j with
    | true => exact .inl rfl
    | false => exact .inr ⟨h, rfl⟩
/-- Where a round leads nowhere new, no round does. -/
theorem up_closed {n : Nat} {R : Rl} (hR : Inn n R) {q : Pl} (hq : PlN n q) {k : Nat} (h : newP R q k = noP) : ∀ d, upP R q (k + d) = upP R q k
  | 0 => rfl
  | d + 1 => by
    have ih := up_closed hR hq h d
    have hn : ∀ d, newP R q (k + d) = noP := fun d => by
      induction d with
      | zero => exact h
      | succ d ih2 => rw [show k + (d + 1) = (k + d) + 1 by omega, ← round_new hR hq, ih2, img_no]; rfl
    rw [show k + (d + 1) = (k + d) + 1 by omega, ← round_up R q (k + d), ih, show k + d + 1 = k + (d + 1) by omega, hn (d + 1)]
    funext j
    simp [orP, noP]
/-- The repeat, by its least rounds and then as many as it may have more. -/
theorem rep_up {n : Nat} {R : Rl} (hR : Inn n R) {p : Pl} (hp : PlN n p) (mn : Nat) (mx : Int) (K : Nat)
    (hK : (0 ≤ mx ∧ (mn : Int) + K = mx) ∨ newP R (img (pw R mn) p) K = noP ∧ (mx < 0 ∨ (mn : Int) + K ≤ mx)) : img (rpR R mn mx) p = upP R (img (pw R mn) p) K := pl_ext fun j => by
  have hq := hp.img (hR.pw mn)
  rw [img_iff, up_iff]
  constructor
  · rintro ⟨i, h1, k, h2, h3, h4⟩
    obtain ⟨d, rfl⟩ : ∃ d, k = mn + d := ⟨k - mn, by omega⟩
    obtain ⟨c, h5, h6⟩ := (pw_add R mn d i j).1 h4
    have hc := hR.pw mn i c (by omega) (by have := hp i h1; omega) h5
    have hd : img (pw R d) (img (pw R mn) p) j = true := img_iff.2 ⟨c.toNat, img_iff.2 ⟨i, h1, by rw [Int.toNat_of_nonneg hc.1]; exact h5⟩, by rw [Int.toNat_of_nonneg hc.1]; exact h6⟩
    rcases hK with ⟨h7, h8⟩ | ⟨h7, _⟩
    · exact ⟨d, by omega, hd⟩
    · rcases Nat.lt_or_ge K d with h9 | h9
      · have h10 : upP R (img (pw R mn) p) (K + (d - K)) j = true := up_iff.2 ⟨d, by omega, hd⟩
        rw [up_closed hR hq h7] at h10
        exact up_iff.1 h10
      · exact ⟨d, h9, hd⟩
  · rintro ⟨m, hm, h⟩
    obtain ⟨c, h1, h2⟩ := img_iff.1 h
    obtain ⟨i, h3, h4⟩ := img_iff.1 h1
    exact ⟨i, h3, mn + m, by omega, by omega, (pw_add R mn m i j).2 ⟨c, h4, h2⟩⟩

end Go.Proofs.YtgfknlkpdiejgaaDoor
