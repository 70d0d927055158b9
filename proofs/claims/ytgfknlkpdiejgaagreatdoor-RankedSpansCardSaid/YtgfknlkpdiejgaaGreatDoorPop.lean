/- Plain facts on counting a word's bits: the sums over pairs, nibbles and bytes of a word made of bits count its bits. No condition. -/
import Derived.Test.YtgfknlkpdiejgaaGreatDoorBits
namespace Go.Proofs.YtgfknlkpdiejgaaGreatDoor

theorem and_split (j a b c d : Nat) (ha : a < 2 ^ j) (hc : c < 2 ^ j) : (a + 2 ^ j * b) &&& (c + 2 ^ j * d) = (a &&& c) + 2 ^ j * (b &&& d) := by
  have hac : a &&& c < 2 ^ j := Nat.and_lt_two_pow _ hc
  apply Nat.eq_of_testBit_eq
  intro i
  rw [Nat.testBit_and, Nat.add_comm a, Nat.add_comm c, Nat.add_comm (a &&& c), Nat.testBit_two_pow_mul_add _ ha, Nat.testBit_two_pow_mul_add _ hc, Nat.testBit_two_pow_mul_add _ hac]
  split
  · rw [Nat.testBit_and]
  · rw [Nat.testBit_and]

/-- A number of n bytes, the lowest first. -/
def dg : Nat → (Nat → Nat) → Nat
  | 0, _ => 0
  | n + 1, f => f 0 + 256 * dg n (fun i => f (i + 1))

theorem dg_congr : ∀ (n : Nat) {f g : Nat → Nat}, (∀ i, f i = g i) → dg n f = dg n g := by
  intro n f g h
  have : f = g := funext h
  rw [this]
theorem dg_add : ∀ (n : Nat) (f g : Nat → Nat), dg n f + dg n g = dg n (fun i => f i + g i)
  | 0, _, _ => rfl
  | n + 1, f, g => by
    have ih := dg_add n (fun i => f (i + 1)) (fun i => g (i + 1))
    simp only [dg]
    omega
theorem dg_and : ∀ (n : Nat) (f : Nat → Nat) (m : Nat), m < 256 → (∀ i, f i < 256) → dg n f &&& dg n (fun _ => m) = dg n (fun i => f i &&& m)
  | 0, _, _, _, _ => by simp [dg]
  | n + 1, f, m, hm, hf => by
    simp only [dg]
    rw [← dg_and n _ m hm (fun i => hf (i + 1))]
    exact and_split 8 _ _ _ _ (hf 0) hm
theorem dg_half : ∀ (n : Nat) (f : Nat → Nat), (∀ i, f i < 256) → (dg n f / 2) &&& dg n (fun _ => 85) = dg n (fun i => (f i / 2) &&& 85)
  | 0, _, _ => by simp [dg]
  | n + 1, f, hf => by
    simp only [dg]
    rw [← dg_half n _ (fun i => hf (i + 1))]
    have h0 := hf 0
    generalize dg n (fun i => f (i + 1)) = R
    have e : (f 0 + 256 * R) / 2 = (f 0 / 2 + 128 * (R % 2)) + 256 * (R / 2) := by omega
    have e2 : (f 0 / 2 + 128 * (R % 2)) &&& 85 = (f 0 / 2) &&& 85 := by
      have := and_split 7 (f 0 / 2) (R % 2) 85 0 (by omega) (by decide)
      simpa using this
    rw [e, ← e2]
    exact and_split 8 _ _ 85 _ (by omega) (by decide)
theorem dg_quarter : ∀ (n : Nat) (f : Nat → Nat), (∀ i, f i < 256) → (dg n f / 4) &&& dg n (fun _ => 51) = dg n (fun i => (f i / 4) &&& 51)
  | 0, _, _ => by simp [dg]
  | n + 1, f, hf => by
    simp only [dg]
    rw [← dg_quarter n _ (fun i => hf (i + 1))]
    have h0 := hf 0
    generalize dg n (fun i => f (i + 1)) = R
    have e : (f 0 + 256 * R) / 4 = (f 0 / 4 + 64 * (R % 4)) + 256 * (R / 4) := by omega
    have e2 : (f 0 / 4 + 64 * (R % 4)) &&& 51 = (f 0 / 4) &&& 51 := by
      have := and_split 6 (f 0 / 4) (R % 4) 51 0 (by omega) (by decide)
      simpa using this
    rw [e, ← e2]
    exact and_split 8 _ _ 51 _ (by omega) (by decide)
theorem dg_mod16 : ∀ (n : Nat) (f : Nat → Nat), (∀ i, f i % 16 ≤ 4) → dg n f % 16 ≤ 4
  | 0, _, _ => by simp [dg]
  | n + 1, f, h => by
    have := h 0
    simp only [dg]
    omega
theorem dg_nib : ∀ (n : Nat) (f : Nat → Nat), (∀ i, f i ≤ 68) → (∀ i, f i % 16 ≤ 4) → (dg n f / 16 + dg n f) &&& dg n (fun _ => 15) = dg n (fun i => (f i / 16 + f i) &&& 15)
  | 0, _, _, _ => by simp [dg]
  | n + 1, f, hf, hm => by
    simp only [dg]
    rw [← dg_nib n _ (fun i => hf (i + 1)) (fun i => hm (i + 1))]
    have h0 := hf 0
    have hR := dg_mod16 n (fun i => f (i + 1)) (fun i => hm (i + 1))
    generalize dg n (fun i => f (i + 1)) = R at *
    have e : (f 0 + 256 * R) / 16 + (f 0 + 256 * R) = (f 0 / 16 + f 0 + 16 * (R % 16)) + 256 * (R / 16 + R) := by omega
    have e2 : (f 0 / 16 + f 0 + 16 * (R % 16)) &&& 15 = (f 0 / 16 + f 0) &&& 15 := by
      rw [show 15 = 2 ^ 4 - 1 from rfl, Nat.and_two_pow_sub_one_eq_mod, Nat.and_two_pow_sub_one_eq_mod]
      omega
    rw [e, ← e2]
    exact and_split 8 _ _ 15 _ (by omega) (by decide)

/-- The bits of a byte. -/
def pc8 (x : Nat) : Nat := x % 2 + x / 2 % 2 + x / 4 % 2 + x / 8 % 2 + x / 16 % 2 + x / 32 % 2 + x / 64 % 2 + x / 128 % 2
def s1 (x : Nat) : Nat := ((x / 2) &&& 85) + (x &&& 85)
def s2 (x : Nat) : Nat := ((x / 4) &&& 51) + (x &&& 51)
def s4 (x : Nat) : Nat := (x / 16 + x) &&& 15
theorem byte_steps : ∀ x : Fin 256, s1 x.val < 256 ∧ s2 (s1 x.val) ≤ 68 ∧ s2 (s1 x.val) % 16 ≤ 4 ∧ s4 (s2 (s1 x.val)) = pc8 x.val ∧ pc8 x.val ≤ 8 := by decide +kernel
theorem byte_step {x : Nat} (h : x < 256) : s1 x < 256 ∧ s2 (s1 x) ≤ 68 ∧ s2 (s1 x) % 16 ≤ 4 ∧ s4 (s2 (s1 x)) = pc8 x ∧ pc8 x ≤ 8 := byte_steps ⟨x, h⟩

/-- The sum of a word's first three steps: each byte's bits. -/
theorem dg_steps (n : Nat) (f : Nat → Nat) (hf : ∀ i, f i < 256) (M1 M2 M4 : Nat) (h1 : dg n (fun _ => 85) = M1) (h2 : dg n (fun _ => 51) = M2) (h4 : dg n (fun _ => 15) = M4) :
    let x1 := ((dg n f / 2) &&& M1) + (dg n f &&& M1)
    let x2 := ((x1 / 4) &&& M2) + (x1 &&& M2)
    (x2 / 16 + x2) &&& M4 = dg n (fun i => pc8 (f i)) := by
  intro x1 x2
  have e1 : x1 = dg n (fun i => s1 (f i)) := by
    show ((dg n f / 2) &&& M1) + (dg n f &&& M1) = _
    rw [← h1, dg_half n f hf, dg_and n f 85 (by decide) hf, dg_add]
    rfl
  have e2 : x2 = dg n (fun i => s2 (s1 (f i))) := by
    show ((x1 / 4) &&& M2) + (x1 &&& M2) = _
    rw [e1, ← h2, dg_quarter n _ (fun i => (byte_step (hf i)).1), dg_and n _ 51 (by decide) (fun i => (byte_step (hf i)).1), dg_add]
    rfl
  rw [e2, ← h4, dg_nib n _ (fun i => (byte_step (hf i)).2.1) (fun i => (byte_step (hf i)).2.2.1)]
  exact dg_congr n (fun i => (byte_step (hf i)).2.2.2.1)

/-- How many of the first n. -/
def cntB (p : Nat → Bool) : Nat → Nat
  | 0 => 0
  | n + 1 => cntB p n + if p n = true then 1 else 0
theorem cntB_le (p : Nat → Bool) : ∀ n, cntB p n ≤ n
  | 0 => Nat.le_refl _
  | n + 1 => by
    have := cntB_le p n
    unfold cntB
    split <;> omega
theorem cntB_add (p : Nat → Bool) (a : Nat) : ∀ b, cntB p (a + b) = cntB p a + cntB (fun k => p (a + k)) b
  | 0 => rfl
  | b + 1 => by
    have ih := cntB_add p a b
    show cntB p (a + b) + (if p (a + b) = true then 1 else 0) = cntB p a + (cntB (fun k => p (a + k)) b + if p (a + b) = true then 1 else 0)
    omega
theorem cntB_congr {p q : Nat → Bool} : ∀ {n}, (∀ k, k < n → p k = q k) → cntB p n = cntB q n
  | 0, _ => rfl
  | n + 1, h => by
    unfold cntB
    rw [cntB_congr (fun k hk => h k (by omega)), h n (by omega)]
theorem cntB_not (p : Nat → Bool) : ∀ n, cntB (fun b => !p b) n + cntB p n = n
  | 0 => rfl
  | n + 1 => by
    have := cntB_not p n
    unfold cntB
    cases p n <;> simp <;> omega
theorem cntB_or_and (p q : Nat → Bool) : ∀ n, cntB (fun b => p b || q b) n + cntB (fun b => p b && q b) n = cntB p n + cntB q n
  | 0 => rfl
  | n + 1 => by
    have := cntB_or_and p q n
    unfold cntB
    cases p n <;> cases q n <;> simp <;> omega

theorem ofBits_add (p : Nat → Bool) (a : Nat) : ∀ b, ofBits p (a + b) = ofBits p a + 2 ^ a * ofBits (fun k => p (a + k)) b
  | 0 => by simp [ofBits]
  | b + 1 => by
    have ih := ofBits_add p a b
    show ofBits p (a + b) + (if p (a + b) = true then 2 ^ (a + b) else 0) = ofBits p a + 2 ^ a * (ofBits (fun k => p (a + k)) b + if p (a + b) = true then 2 ^ b else 0)
    rw [ih, Nat.mul_add]
    split
    · rw [Nat.pow_add]; omega
    · simp
theorem ofBits_dg : ∀ (n : Nat) (p : Nat → Bool), ofBits p (8 * n) = dg n (fun j => ofBits (fun k => p (8 * j + k)) 8)
  | 0, _ => rfl
  | n + 1, p => by
    have e : 8 * (n + 1) = 8 + 8 * n := by omega
    rw [e, ofBits_add, ofBits_dg n]
    show _ = ofBits (fun k => p (8 * 0 + k)) 8 + 256 * dg n (fun i => (fun j => ofBits (fun k => p (8 * j + k)) 8) (i + 1))
    have e2 : (fun k => p (8 * 0 + k)) = p := by funext k; congr 1; omega
    have e3 : (fun j => ofBits (fun k => p (8 + (8 * j + k))) 8) = (fun i => (fun j => ofBits (fun k => p (8 * j + k)) 8) (i + 1)) := by
      funext j
      show ofBits _ 8 = ofBits _ 8
      congr 1
      funext k
      congr 1
      omega
    rw [e3, e2]
theorem pc8_bits (b0 b1 b2 b3 b4 b5 b6 b7 : Bool) : pc8 (((((((((0 + if b0 = true then 1 else 0) + if b1 = true then 2 else 0) + if b2 = true then 4 else 0) + if b3 = true then 8 else 0) + if b4 = true then 16 else 0) + if b5 = true then 32 else 0) + if b6 = true then 64 else 0) + if b7 = true then 128 else 0)) =
    (((((((0 + if b0 = true then 1 else 0) + if b1 = true then 1 else 0) + if b2 = true then 1 else 0) + if b3 = true then 1 else 0) + if b4 = true then 1 else 0) + if b5 = true then 1 else 0) + if b6 = true then 1 else 0) + if b7 = true then 1 else 0 := by
  cases b0 <;> cases b1 <;> cases b2 <;> cases b3 <;> cases b4 <;> cases b5 <;> cases b6 <;> cases b7 <;> rfl
theorem pc8_ofBits (p : Nat → Bool) : pc8 (ofBits p 8) = cntB p 8 := pc8_bits (p 0) (p 1) (p 2) (p 3) (p 4) (p 5) (p 6) (p 7)

/-- The last three steps of counting: the bytes' sum. -/
theorem sum_one (y0 y1 y2 y3 y4 y5 y6 y7 x a : Nat) (h0 : y0 ≤ 8) (hx : x = y0 + 256 * (y1 + 256 * (y2 + 256 * (y3 + 256 * (y4 + 256 * (y5 + 256 * (y6 + 256 * y7))))))) (ha : a = x + x / 256) :
    a = (y0 + y1) + 256 * ((y1 + y2) + 256 * ((y2 + y3) + 256 * ((y3 + y4) + 256 * ((y4 + y5) + 256 * ((y5 + y6) + 256 * ((y6 + y7) + 256 * y7)))))) := by
  generalize hr : y1 + 256 * (y2 + 256 * (y3 + 256 * (y4 + 256 * (y5 + 256 * (y6 + 256 * y7))))) = r at hx
  have q : x / 256 = r := by clear hr ha; omega
  rw [q] at ha
  clear q
  rw [ha, hx, ← hr]
  clear ha hx hr
  omega
theorem sum_two (z0 z1 z2 z3 z4 z5 z6 z7 x a : Nat) (h0 : z0 ≤ 16) (h1 : z1 ≤ 16) (hx : x = z0 + 256 * (z1 + 256 * (z2 + 256 * (z3 + 256 * (z4 + 256 * (z5 + 256 * (z6 + 256 * z7))))))) (ha : a = x + x / 65536) :
    a = (z0 + z2) + 256 * ((z1 + z3) + 256 * ((z2 + z4) + 256 * ((z3 + z5) + 256 * ((z4 + z6) + 256 * ((z5 + z7) + 256 * (z6 + 256 * z7)))))) := by
  generalize hr : z2 + 256 * (z3 + 256 * (z4 + 256 * (z5 + 256 * (z6 + 256 * z7)))) = r at hx
  have q : x / 65536 = r := by clear hr ha; omega
  rw [q] at ha
  clear q
  rw [ha, hx, ← hr]
  clear ha hx hr
  omega
theorem sum_four (z0 z1 z2 z3 z4 z5 z6 z7 x a : Nat) (h0 : z0 ≤ 32) (h1 : z1 ≤ 32) (h2 : z2 ≤ 32) (h3 : z3 ≤ 32) (h4 : z4 ≤ 32) (hx : x = z0 + 256 * (z1 + 256 * (z2 + 256 * (z3 + 256 * (z4 + 256 * (z5 + 256 * (z6 + 256 * z7))))))) (ha : a = x + x / 4294967296) :
    a % 128 = z0 + z4 := by
  generalize hr : z4 + 256 * (z5 + 256 * (z6 + 256 * z7)) = r at hx
  have q : x / 4294967296 = r := by clear hr ha; omega
  rw [q] at ha
  clear q
  rw [ha, hx, ← hr]
  clear ha hx hr
  omega
theorem sum_bytes (y0 y1 y2 y3 y4 y5 y6 y7 x a b c : Nat) (h0 : y0 ≤ 8) (h1 : y1 ≤ 8) (h2 : y2 ≤ 8) (h3 : y3 ≤ 8) (h4 : y4 ≤ 8) (h5 : y5 ≤ 8) (h6 : y6 ≤ 8) (h7 : y7 ≤ 8)
    (hx : x = y0 + 256 * (y1 + 256 * (y2 + 256 * (y3 + 256 * (y4 + 256 * (y5 + 256 * (y6 + 256 * y7)))))))
    (ha : a = x + x / 256) (hb : b = a + a / 65536) (hc : c = b + b / 4294967296) :
    c % 128 = y0 + y1 + y2 + y3 + y4 + y5 + y6 + y7 ∧ x < 1000000000000000000 := by
  have b01 : y0 + y1 ≤ 16 := Nat.add_le_add h0 h1
  have b12 : y1 + y2 ≤ 16 := Nat.add_le_add h1 h2
  have b23 : y2 + y3 ≤ 16 := Nat.add_le_add h2 h3
  have b34 : y3 + y4 ≤ 16 := Nat.add_le_add h3 h4
  have b45 : y4 + y5 ≤ 16 := Nat.add_le_add h4 h5
  have b56 : y5 + y6 ≤ 16 := Nat.add_le_add h5 h6
  have b67 : y6 + y7 ≤ 16 := Nat.add_le_add h6 h7
  have ha' := sum_one y0 y1 y2 y3 y4 y5 y6 y7 x a h0 hx ha
  have hb' := sum_two (y0 + y1) (y1 + y2) (y2 + y3) (y3 + y4) (y4 + y5) (y5 + y6) (y6 + y7) y7 a b b01 b12 ha' hb
  have hc' := sum_four (y0 + y1 + (y2 + y3)) (y1 + y2 + (y3 + y4)) (y2 + y3 + (y4 + y5)) (y3 + y4 + (y5 + y6)) (y4 + y5 + (y6 + y7)) (y5 + y6 + y7) (y6 + y7) y7 b c (Nat.add_le_add b01 b23) (Nat.add_le_add b12 b34) (Nat.add_le_add b23 b45) (Nat.add_le_add b34 b56) (Nat.add_le_add b45 b67) hb' hc
  refine ⟨hc'.trans (by simp only [Nat.add_assoc]), ?_⟩
  clear ha ha' hb hb' hc hc' b01 b12 b23 b34 b45 b56 b67
  omega
theorem cntB_bytes (p : Nat → Bool) : cntB p 64 = cntB (fun k => p (8 * 0 + k)) 8 + cntB (fun k => p (8 * 1 + k)) 8 + cntB (fun k => p (8 * 2 + k)) 8 + cntB (fun k => p (8 * 3 + k)) 8 + cntB (fun k => p (8 * 4 + k)) 8 + cntB (fun k => p (8 * 5 + k)) 8 + cntB (fun k => p (8 * 6 + k)) 8 + cntB (fun k => p (8 * 7 + k)) 8 := by
  have h7 := cntB_add p 56 8
  have h6 := cntB_add p 48 8
  have h5 := cntB_add p 40 8
  have h4 := cntB_add p 32 8
  have h3 := cntB_add p 24 8
  have h2 := cntB_add p 16 8
  have h1 := cntB_add p 8 8
  have e0 : (fun k => p (8 * 0 + k)) = p := by funext k; congr 1; omega
  rw [e0]
  simp only [Nat.reduceMul, Nat.reduceAdd] at *
  omega
theorem dg8 (f : Nat → Nat) : dg 8 f = f 0 + 256 * (f 1 + 256 * (f 2 + 256 * (f 3 + 256 * (f 4 + 256 * (f 5 + 256 * (f 6 + 256 * f 7)))))) := rfl
theorem le8 (y0 y1 y2 y3 y4 y5 y6 y7 m : Nat) (h0 : y0 ≤ m) (h1 : y1 ≤ m) (h2 : y2 ≤ m) (h3 : y3 ≤ m) (h4 : y4 ≤ m) (h5 : y5 ≤ m) (h6 : y6 ≤ m) (h7 : y7 ≤ m) :
    y0 + 256 * (y1 + 256 * (y2 + 256 * (y3 + 256 * (y4 + 256 * (y5 + 256 * (y6 + 256 * y7)))))) ≤ m * 72340172838076673 := by omega
theorem dg8_le (f : Nat → Nat) (m : Nat) (h : ∀ i, f i ≤ m) : dg 8 f ≤ m * 72340172838076673 := by
  rw [dg8]
  exact le8 _ _ _ _ _ _ _ _ m (h 0) (h 1) (h 2) (h 3) (h 4) (h 5) (h 6) (h 7)
/-- All of it: the steps over a word made of bits count the bits. -/
theorem count_word (p : Nat → Bool) (M1 M2 M4 w x1 x2 x a b c : Nat) (h1 : dg 8 (fun _ => 85) = M1) (h2 : dg 8 (fun _ => 51) = M2) (h4 : dg 8 (fun _ => 15) = M4)
    (e0 : w = ofBits p 64) (e1 : x1 = ((w / 2) &&& M1) + (w &&& M1)) (e2 : x2 = ((x1 / 4) &&& M2) + (x1 &&& M2)) (e3 : x = (x2 / 16 + x2) &&& M4)
    (e4 : a = x + x / 256) (e5 : b = a + a / 65536) (e6 : c = b + b / 4294967296) :
    c % 128 = cntB p 64 ∧ x < 1000000000000000000 ∧ x1 < 18446744073709551616 ∧ x2 < 5000000000000000000 := by
  have hw : w = dg 8 (fun j => ofBits (fun k => p (8 * j + k)) 8) := e0.trans (ofBits_dg 8 p)
  have hf : ∀ j, ofBits (fun k => p (8 * j + k)) 8 < 256 := fun j => ofBits_lt _ 8
  have hx : x = dg 8 (fun i => pc8 (ofBits (fun k => p (8 * i + k)) 8)) := by
    have := dg_steps 8 _ hf M1 M2 M4 h1 h2 h4
    rw [← hw] at this
    rw [e3, e2, e1]
    exact this
  have g1 : x1 = dg 8 (fun i => s1 (ofBits (fun k => p (8 * i + k)) 8)) := by
    rw [e1, ← h1, hw, dg_half 8 _ hf, dg_and 8 _ 85 (by decide) hf, dg_add]
    rfl
  have g2 : x2 = dg 8 (fun i => s2 (s1 (ofBits (fun k => p (8 * i + k)) 8))) := by
    rw [e2, g1, ← h2, dg_quarter 8 _ (fun i => (byte_step (hf i)).1), dg_and 8 _ 51 (by decide) (fun i => (byte_step (hf i)).1), dg_add]
    rfl
  have b1 := dg8_le _ 255 (fun i => Nat.le_of_lt_succ (byte_step (hf i)).1)
  have b2 := dg8_le _ 68 (fun i => (byte_step (hf i)).2.1)
  rw [← g1] at b1
  rw [← g2] at b2
  have hy := fun i => (byte_step (hf i)).2.2.2.2
  have hs := sum_bytes _ _ _ _ _ _ _ _ x a b c (hy 0) (hy 1) (hy 2) (hy 3) (hy 4) (hy 5) (hy 6) (hy 7) (hx.trans (dg8 _)) e4 e5 e6
  rw [cntB_bytes]
  clear e0 e1 e2 e3 e4 e5 e6 g1 g2 hx hw
  refine ⟨hs.1.trans ?_, hs.2, Nat.lt_of_le_of_lt b1 (by decide), Nat.lt_of_le_of_lt b2 (by decide)⟩
  simp only [pc8_ofBits]

end Go.Proofs.YtgfknlkpdiejgaaGreatDoor
