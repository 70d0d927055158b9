/- Plain facts on words made of bits: a word below 2^n is the sum of its bits; 'and', 'or' and complement go bit by bit. No condition. -/
namespace Go.Proofs.YtgfknlkpdiejgaaGreatDoor

/-- The word of n bits. -/
def ofBits (p : Nat → Bool) : Nat → Nat
  | 0 => 0
  | n + 1 => ofBits p n + if p n = true then 2 ^ n else 0

theorem ofBits_lt (p : Nat → Bool) (n : Nat) : ofBits p n < 2 ^ n := by
  induction n with
  | zero => exact Nat.lt_succ_self 0
  | succ n ih =>
    have : 2 ^ (n + 1) = 2 ^ n + 2 ^ n := by rw [Nat.pow_succ]; omega
    unfold ofBits
    split <;> omega

theorem testBit_ofBits (p : Nat → Bool) (n k : Nat) : (ofBits p n).testBit k = (decide (k < n) && p k) := by
  induction n with
  | zero => simp [ofBits]
  | succ n ih =>
    have hlt := ofBits_lt p n
    have h2 : 2 ^ (n + 1) = 2 ^ n + 2 ^ n := by rw [Nat.pow_succ]; omega
    unfold ofBits
    by_cases hp : p n = true
    · rw [if_pos hp, Nat.add_comm]
      rcases Nat.lt_trichotomy k n with h | h | h
      · rw [Nat.testBit_two_pow_add_gt h, ih]
        have e1 : decide (k < n) = true := by simpa using h
        have e2 : decide (k < n + 1) = true := by simp; omega
        rw [e1, e2]
      · subst h
        rw [Nat.testBit_two_pow_add_eq, ih]
        simp [hp]
      · rw [Nat.testBit_lt_two_pow (Nat.lt_of_lt_of_le (show 2 ^ n + ofBits p n < 2 ^ (n + 1) from by omega) (Nat.pow_le_pow_right (by decide) h))]
        have e2 : decide (k < n + 1) = false := by simp; omega
        rw [e2, Bool.false_and]
    · rw [if_neg hp, Nat.add_zero, ih]
      by_cases h : k = n
      · subst h
        have hp' : p k = false := by simpa using hp
        rw [hp', Bool.and_false, Bool.and_false]
      · have e : decide (k < n + 1) = decide (k < n) := by rw [decide_eq_decide]; omega
        rw [e]

theorem ofBits_congr {p q : Nat → Bool} {n : Nat} (h : ∀ k, k < n → p k = q k) : ofBits p n = ofBits q n := by
  induction n with
  | zero => rfl
  | succ n ih => unfold ofBits; rw [ih (fun k hk => h k (by omega)), h n (Nat.lt_succ_self n)]

theorem ofBits_testBit {x n : Nat} (h : x < 2 ^ n) : ofBits x.testBit n = x := by
  apply Nat.eq_of_testBit_eq
  intro k
  rw [testBit_ofBits]
  by_cases hk : k < n
  · have e : decide (k < n) = true := by simpa using hk
    rw [e, Bool.true_and]
  · have e : decide (k < n) = false := by simpa using hk
    rw [e, Bool.false_and, Nat.testBit_lt_two_pow (Nat.lt_of_lt_of_le h (Nat.pow_le_pow_right (by decide) (by omega)))]

/-- Word i of a set of bytes. -/
def wd (p : Nat → Bool) (i : Nat) : Nat := ofBits (fun k => p (64 * i + k)) 64
theorem wd_lt (p : Nat → Bool) (i : Nat) : wd p i < 18446744073709551616 := ofBits_lt _ 64
theorem wd_bit (p : Nat → Bool) (i k : Nat) (h : k < 64) : (wd p i).testBit k = p (64 * i + k) := by
  unfold wd
  rw [testBit_ofBits]
  have e : decide (k < 64) = true := by simpa using h
  rw [e, Bool.true_and]
theorem wd_of {x : Nat} {p : Nat → Bool} {i : Nat} (h : x < 18446744073709551616) (hb : ∀ k, k < 64 → x.testBit k = p (64 * i + k)) : x = wd p i := by
  rw [← ofBits_testBit (x := x) (n := 64) h]
  exact ofBits_congr hb
theorem wd_congr {p q : Nat → Bool} {i : Nat} (h : ∀ k, k < 64 → p (64 * i + k) = q (64 * i + k)) : wd p i = wd q i := ofBits_congr h
theorem wd_or (p q : Nat → Bool) (i : Nat) : wd p i ||| wd q i = wd (fun b => p b || q b) i :=
  wd_of (Nat.or_lt_two_pow (n := 64) (wd_lt p i) (wd_lt q i)) fun k hk => by rw [Nat.testBit_or, wd_bit _ _ _ hk, wd_bit _ _ _ hk]
theorem wd_and (p q : Nat → Bool) (i : Nat) : wd p i &&& wd q i = wd (fun b => p b && q b) i :=
  wd_of (Nat.and_lt_two_pow (n := 64) _ (wd_lt q i)) fun k hk => by rw [Nat.testBit_and, wd_bit _ _ _ hk, wd_bit _ _ _ hk]
theorem wd_not (p : Nat → Bool) (i : Nat) : 18446744073709551615 - wd p i = wd (fun b => !p b) i := by
  have h := wd_lt p i
  refine wd_of (by omega) fun k hk => ?_
  have e : 18446744073709551615 - wd p i = 2 ^ 64 - (wd p i + 1) := by omega
  rw [e, Nat.testBit_two_pow_sub_succ h, wd_bit _ _ _ hk]
  have e2 : decide (k < 64) = true := by simpa using hk
  rw [e2, Bool.true_and]
theorem wd_none (i : Nat) : wd (fun _ => false) i = 0 := by
  unfold wd
  have : ∀ n, ofBits (fun _ => false) n = 0 := by
    intro n
    induction n with
    | zero => rfl
    | succ n ih => unfold ofBits; rw [ih]; rfl
  exact this 64
/-- The membership that a row of four words has. -/
def memOf (a : Nat → Nat) (b : Nat) : Bool := (a (b / 64)).testBit (b % 64)
theorem wd_memOf (a : Nat → Nat) (i : Nat) (h : a i < 18446744073709551616) : wd (memOf a) i = a i := by
  symm
  refine wd_of h fun k hk => ?_
  unfold memOf
  have e1 : (64 * i + k) / 64 = i := by omega
  have e2 : (64 * i + k) % 64 = k := by omega
  rw [e1, e2]
/-- Two sets with the same words have the same bytes. -/
theorem wd_inj {p q : Nat → Bool} (h : ∀ i, i < 4 → wd p i = wd q i) (b : Nat) (hb : b < 256) : p b = q b := by
  have h1 := wd_bit p (b / 64) (b % 64) (by omega)
  have h2 := wd_bit q (b / 64) (b % 64) (by omega)
  have e : 64 * (b / 64) + b % 64 = b := by omega
  rw [e] at h1 h2
  rw [← h1, ← h2, h _ (by omega)]

end Go.Proofs.YtgfknlkpdiejgaaGreatDoor
