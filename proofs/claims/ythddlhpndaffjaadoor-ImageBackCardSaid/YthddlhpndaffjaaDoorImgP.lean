/- The image of a tree as bytes, and what a reader of such bytes makes of them. No program. -/
import Derived.Test.YthddlhpndaffjaaDoorSameP
namespace Go.Proofs.YthddlhpndaffjaaDoor

def b8 (n : Nat) : UInt8 := UInt8.ofNat n
theorem b8_nat {n : Nat} (h : n < 256) : (b8 n).toNat = n := by
  unfold b8
  rw [UInt8.toNat_ofNat']
  omega
theorem b8_of (c : UInt8) : b8 c.toNat = c := by unfold b8; simp
/-- A number by sevens. -/
def numB (n : Nat) : List UInt8 := if n < 128 then [b8 n] else b8 (128 + n % 128) :: numB (n / 128)
termination_by n
decreasing_by omega
theorem numB_small {n : Nat} (h : n < 128) : numB n = [b8 n] := by rw [numB, if_pos h]
theorem numB_big {n : Nat} (h : 128 ≤ n) : numB n = b8 (128 + n % 128) :: numB (n / 128) := by rw [numB, if_neg (by omega)]
theorem numB_len {n : Nat} (h : n < 16384) : 1 ≤ (numB n).length ∧ (numB n).length ≤ 2 := by
  by_cases h1 : n < 128
  · rw [numB_small h1]; simp
  · rw [numB_big (by omega), numB_small (by omega)]; simp
def setB (p : Nat → Bool) : List UInt8 := (List.range 32).map fun j => b8 (ofBits (fun k => p (8 * j + k)) 8)
theorem setB_len (p : Nat → Bool) : (setB p).length = 32 := by simp [setB]
def headB (h : Hd) (len : Nat) : List UInt8 :=
  if h.kind = 2 then setB h.set
  else if h.kind = 5 ∨ h.kind = 6 then numB len
  else if h.kind = 7 then numB h.num.toNat
  else if h.kind = 8 then numB h.min.toNat ++ numB (h.max + 1).toNat ++ [if h.bare = true then 1 else 0]
  else []
section
variable {h : Hd} {l : Nat}
theorem headB2 (k : h.kind = 2) : headB h l = setB h.set := by unfold headB; rw [if_pos k]
theorem headB5 (k : h.kind = 5 ∨ h.kind = 6) : headB h l = numB l := by unfold headB; rw [if_neg (by omega), if_pos k]
theorem headB7 (k : h.kind = 7) : headB h l = numB h.num.toNat := by unfold headB; rw [if_neg (by omega), if_neg (by omega), if_pos k]
theorem headB8 (k : h.kind = 8) : headB h l = numB h.min.toNat ++ numB (h.max + 1).toNat ++ [if h.bare = true then 1 else 0] := by unfold headB; rw [if_neg (by omega), if_neg (by omega), if_neg (by omega), if_pos k]
theorem headB0 (k : h.kind ≠ 2 ∧ h.kind ≠ 5 ∧ h.kind ≠ 6 ∧ h.kind ≠ 7 ∧ h.kind ≠ 8) : headB h l = [] := by unfold headB; rw [if_neg (by omega), if_neg (by omega), if_neg (by omega), if_neg (by omega)]
end
mutual
def imgN : Nd → List UInt8
  | .mk h s => b8 h.kind.toNat :: (headB h s.length ++ imgL s)
def imgL : List Nd → List UInt8
  | [] => []
  | n :: r => imgN n ++ imgL r
end
theorem imgL_app : ∀ (a b : List Nd), imgL (a ++ b) = imgL a ++ imgL b
  | [], b => by rw [imgL]; rfl
  | n :: a, b => by
    show imgL (n :: (a ++ b)) = _
    rw [imgL, imgL, imgL_app a b, List.append_assoc]
theorem imgL_one (n : Nd) : imgL [n] = imgN n := by rw [imgL, imgL, List.append_nil]
mutual
theorem nodes_img : ∀ n, nodesN n ≤ (imgN n).length
  | .mk h s => by
    have := nodesL_img s
    rw [nodesN, imgN]
    simp only [List.length_cons, List.length_append]
    omega
theorem nodesL_img : ∀ l, nodesL l ≤ (imgL l).length
  | [] => by rw [nodesL, imgL]; simp
  | n :: r => by
    have h1 := nodes_img n
    have h2 := nodesL_img r
    rw [nodesL, imgL, List.length_append]
    omega
end

/-! ### the reader of the program -/
abbrev St := List UInt8 × Bool
def tk : St → UInt8 × St
  | ([], _) => (0, ([], true))
  | (c :: r, b) => (c, (r, b))
def numP (s : St) : Nat × St :=
  if (tk s).1.toNat < 128 then ((tk s).1.toNat, (tk s).2)
  else ((tk s).1.toNat % 128 + 128 * (tk (tk s).2).1.toNat, ((tk (tk s).2).2.1, (tk (tk s).2).2.2 || decide ((tk (tk s).2).1.toNat = 0 ∨ 127 < (tk (tk s).2).1.toNat)))
def takesP : Nat → St → List UInt8 × St
  | 0, s => ([], s)
  | k + 1, s => ((takesP k s).1 ++ [(tk (takesP k s).2).1], (tk (takesP k s).2).2)
def byteSet (l : List UInt8) : Nat → Bool := fun b => (l.getD (b / 8) 0).toNat.testBit (b % 8)
structure Head where
  h : Hd
  m : Nat
  s : St
def headP (k : Nat) (s : St) : Head :=
  if k = 2 then ⟨⟨2, byteSet (takesP 32 s).1, 0, 0, 0, false⟩, 0, (takesP 32 s).2⟩
  else if k = 5 ∨ k = 6 then ⟨hdV k, (numP s).1, (numP s).2⟩
  else if k = 7 then ⟨⟨7, noS, (numP s).1, 0, 0, false⟩, 1, (numP s).2⟩
  else if k = 8 then ⟨⟨8, noS, 0, (numP s).1, (numP (numP s).2).1 - 1, (tk (numP (numP s).2).2).1 == 1⟩, 1, ((tk (numP (numP s).2).2).2.1, (tk (numP (numP s).2).2).2.2 || decide (1 < (tk (numP (numP s).2).2).1.toNat))⟩
  else ⟨hdV k, 0, s⟩
def loopP (g : St → Nd × St) : Nat → St → List Nd × St
  | 0, s => ([], s)
  | m + 1, s => if s.2 = true then ([], s) else ((g s).1 :: (loopP g m (g s).2).1, (loopP g m (g s).2).2)
def headOf (s : St) : Head := headP (tk s).1.toNat (tk s).2
def nodeP : Nat → St → Nd × St
  | 0, s => (.mk (headOf s).h [], ((headOf s).s.1, true))
  | f + 1, s => (.mk (headOf s).h (loopP (nodeP f) (headOf s).m (headOf s).s).1, (loopP (nodeP f) (headOf s).m (headOf s).s).2)

/-! ### what it takes is an image -/
theorem tk_sound {s : St} (h : (tk s).2.2 = false) : s.2 = false ∧ s.1 = (tk s).1 :: (tk s).2.1 := by
  obtain ⟨l, b⟩ := s
  cases l with
  | nil => simp [tk] at h
  | cons c r => simp only [tk] at h; exact ⟨h, rfl⟩
theorem numP_sound {s : St} (h : (numP s).2.2 = false) : s.2 = false ∧ s.1 = numB (numP s).1 ++ (numP s).2.1 := by
  unfold numP at h ⊢
  by_cases h1 : (tk s).1.toNat < 128
  · rw [if_pos h1] at h ⊢
    obtain ⟨h2, h3⟩ := tk_sound h
    exact ⟨h2, by simp only [numB_small h1, b8_of]; exact h3⟩
  · rw [if_neg h1] at h ⊢
    simp only [Bool.or_eq_false_iff, decide_eq_false_iff_not, not_or] at h
    obtain ⟨h2, h3⟩ := tk_sound h.1
    obtain ⟨h4, h5⟩ := tk_sound h2
    refine ⟨h4, ?_⟩
    have hc := (tk s).1.toNat_lt
    have hd := (tk (tk s).2).1.toNat_lt
    simp only
    rw [numB_big (by omega), show 128 + ((tk s).1.toNat % 128 + 128 * (tk (tk s).2).1.toNat) % 128 = (tk s).1.toNat by omega, show ((tk s).1.toNat % 128 + 128 * (tk (tk s).2).1.toNat) / 128 = (tk (tk s).2).1.toNat by omega, numB_small (by omega), b8_of, b8_of, h5, h3]
    rfl
theorem takesP_sound : ∀ (k : Nat) {s : St}, (takesP k s).2.2 = false → s.2 = false ∧ s.1 = (takesP k s).1 ++ (takesP k s).2.1 ∧ (takesP k s).1.length = k
  | 0, s, h => ⟨h, rfl, rfl⟩
  | k + 1, s, h => by
    unfold takesP at h ⊢
    obtain ⟨h1, h2⟩ := tk_sound h
    obtain ⟨h3, h4, h5⟩ := takesP_sound k h1
    refine ⟨h3, ?_, by simp [h5]⟩
    simp only
    rw [h4, h2, List.append_assoc]
    rfl
theorem bits8 (c : UInt8) : ofBits (fun k => c.toNat.testBit k) 8 = c.toNat := ofBits_testBit c.toNat_lt
theorem setB_byteSet {l : List UInt8} (h : l.length = 32) : setB (byteSet l) = l := by
  apply List.ext_getElem
  · rw [setB_len, h]
  · intro j h1 h2
    simp only [setB, List.getElem_map, List.getElem_range]
    have e : (ofBits (fun k => byteSet l (8 * j + k)) 8) = (l[j]).toNat := by
      rw [← bits8 l[j]]
      refine ofBits_congr fun k hk => ?_
      unfold byteSet
      rw [show (8 * j + k) / 8 = j by omega, show (8 * j + k) % 8 = k by omega]
      simp [h2]
    rw [e, b8_of]
theorem headP_sound {k : Nat} {s : St} (hk : k < 256) (h : (headP k s).s.2 = false) : s.2 = false ∧ ((headP k s).h.kind = k) ∧ s.1 = headB (headP k s).h (headP k s).m ++ (headP k s).s.1 ∧ (k = 7 ∨ k = 8 → (headP k s).m = 1) := by
  unfold headP at h ⊢
  by_cases h2 : k = 2
  · subst h2
    rw [if_pos rfl] at h ⊢
    dsimp only at h ⊢
    obtain ⟨h3, h4, h5⟩ := takesP_sound 32 h
    refine ⟨h3, rfl, ?_, by omega⟩
    rw [headB2 rfl]
    dsimp only
    rw [setB_byteSet h5]
    exact h4
  rw [if_neg h2] at h ⊢
  by_cases h5 : k = 5 ∨ k = 6
  · rw [if_pos h5] at h ⊢
    dsimp only at h ⊢
    obtain ⟨h3, h4⟩ := numP_sound h
    refine ⟨h3, rfl, ?_, by omega⟩
    rw [headB5 (by show (k : Int) = 5 ∨ (k : Int) = 6; omega)]
    exact h4
  rw [if_neg h5] at h ⊢
  by_cases h7 : k = 7
  · subst h7
    rw [if_pos rfl] at h ⊢
    dsimp only at h ⊢
    obtain ⟨h3, h4⟩ := numP_sound h
    refine ⟨h3, rfl, ?_, fun _ => rfl⟩
    rw [headB7 rfl]
    dsimp only
    rw [Int.toNat_natCast]
    exact h4
  rw [if_neg h7] at h ⊢
  by_cases h8 : k = 8
  · subst h8
    rw [if_pos rfl] at h ⊢
    dsimp only at h ⊢
    simp only [Bool.or_eq_false_iff, decide_eq_false_iff_not] at h
    obtain ⟨h3, h4⟩ := tk_sound h.1
    obtain ⟨h5, h6⟩ := numP_sound h3
    obtain ⟨h7, h8⟩ := numP_sound h5
    refine ⟨h7, rfl, ?_, fun _ => rfl⟩
    rw [headB8 rfl]
    dsimp only
    rw [Int.toNat_natCast, show ((((numP (numP s).2).1 : Int) - 1 + 1).toNat) = (numP (numP s).2).1 by omega, List.append_assoc, List.append_assoc]
    have e : (if ((tk (numP (numP s).2).2).1 == 1) = true then (1 : UInt8) else 0) = (tk (numP (numP s).2).2).1 := by
      have hc := h.2
      generalize (tk (numP (numP s).2).2).1 = c at *
      by_cases h1 : c = 1
      · subst h1; rfl
      · rw [if_neg (by simpa using h1)]
        apply UInt8.toNat.inj
        have : c.toNat ≠ 1 := fun e => h1 (UInt8.toNat.inj e)
        show 0 = c.toNat
        omega
    rw [e]
    rw [h8, h6, h4]
    rfl
  · rw [if_neg h8] at h ⊢
    dsimp only at h ⊢
    refine ⟨h, rfl, ?_, by omega⟩
    rw [headB0 (by show (k : Int) ≠ 2 ∧ (k : Int) ≠ 5 ∧ (k : Int) ≠ 6 ∧ (k : Int) ≠ 7 ∧ (k : Int) ≠ 8; omega)]
    rfl
theorem headOf_sound {s : St} (h : (headOf s).s.2 = false) : s.2 = false ∧ s.1 = b8 (headOf s).h.kind.toNat :: (headB (headOf s).h (headOf s).m ++ (headOf s).s.1) := by
  unfold headOf at h ⊢
  obtain ⟨h1, h2, h3, _⟩ := headP_sound (tk s).1.toNat_lt h
  obtain ⟨h4, h5⟩ := tk_sound h1
  refine ⟨h4, ?_⟩
  rw [h2, Int.toNat_natCast, b8_of, h5, h3]
theorem loopP_sound {g : St → Nd × St} (hg : ∀ s, (g s).2.2 = false → s.2 = false ∧ s.1 = imgN (g s).1 ++ (g s).2.1) : ∀ (m : Nat) (s : St), (loopP g m s).2.2 = false → s.2 = false ∧ s.1 = imgL (loopP g m s).1 ++ (loopP g m s).2.1 ∧ (loopP g m s).1.length = m
  | 0, s, h => ⟨h, by simp only [loopP, imgL]; rfl, rfl⟩
  | m + 1, s, h => by
    unfold loopP at h ⊢
    by_cases hb : s.2 = true
    · rw [if_pos hb] at h
      rw [hb] at h
      cases h
    · rw [if_neg hb] at h ⊢
      obtain ⟨h1, h2, h3⟩ := loopP_sound hg m _ h
      obtain ⟨h4, h5⟩ := hg _ h1
      refine ⟨h4, ?_, by simp [h3]⟩
      simp only [imgL]
      rw [h5, h2, List.append_assoc]
theorem nodeP_sound : ∀ (f : Nat) (s : St), (nodeP f s).2.2 = false → s.2 = false ∧ s.1 = imgN (nodeP f s).1 ++ (nodeP f s).2.1
  | 0, s, h => by simp [nodeP] at h
  | f + 1, s, h => by
    unfold nodeP at h ⊢
    obtain ⟨h1, h2, h3⟩ := loopP_sound (nodeP_sound f) _ _ h
    obtain ⟨h4, h5⟩ := headOf_sound h1
    refine ⟨h4, ?_⟩
    simp only [imgN]
    rw [h3, h5, h2]
    simp

/-! ### it takes every image of a tree in form, not too deep, of small numbers -/
def canH (h : Hd) : Hd := { h with set := if h.kind = 2 then byteSet (setB h.set) else noS }
theorem canH_ne {h : Hd} (k : h.kind ≠ 2) : canH h = { h with set := noS } := by unfold canH; rw [if_neg k]
mutual
def canN : Nd → Nd
  | .mk h s => .mk (canH h) (canL s)
def canL : List Nd → List Nd
  | [] => []
  | n :: r => canN n :: canL r
end
mutual
def heightN : Nd → Nat
  | .mk _ s => heightL s + 1
def heightL : List Nd → Nat
  | [] => 0
  | n :: r => max (heightN n) (heightL r)
end
mutual
/-- No list is longer than two bytes tell. -/
def shortN : Nd → Prop
  | .mk _ s => s.length < 16384 ∧ shortL s
def shortL : List Nd → Prop
  | [] => True
  | n :: r => shortN n ∧ shortL r
end
theorem byteSet_setB (p : Nat → Bool) (b : Nat) (hb : b < 256) : byteSet (setB p) b = p b := by
  unfold byteSet
  have h1 : b / 8 < (setB p).length := by rw [setB_len]; omega
  have e : (setB p).getD (b / 8) 0 = b8 (ofBits (fun k => p (8 * (b / 8) + k)) 8) := by
    rw [List.getD_eq_getElem?_getD, List.getElem?_eq_getElem h1]
    simp [setB]
  rw [e, b8_nat (ofBits_lt _ 8), testBit_ofBits, show 8 * (b / 8) + b % 8 = b by omega]
  simp [Nat.mod_lt]
theorem wd_byteSet (p : Nat → Bool) (i : Nat) (hi : i < 4) : wd (byteSet (setB p)) i = wd p i := wd_congr fun k hk => byteSet_setB p _ (by omega)
theorem formed_zeroS {h : Hd} {l : Nat} (hf : formedB h l = true) (h2 : h.kind ≠ 2) : zeroS h.set = true := by
  unfold formedB plainB at hf
  split at hf
  · simp only [Bool.and_eq_true] at hf; exact hf.1.1.1.1.1
  split at hf
  · simp only [Bool.and_eq_true] at hf; exact hf.1.1.1.1.1
  split at hf
  · simp only [Bool.and_eq_true] at hf; exact hf.1.1.1.1.1.1
  split at hf
  · simp only [Bool.and_eq_true] at hf; exact hf.1.1.1.1.1.1
  · cases hf
theorem canH_same {h : Hd} {l : Nat} (hf : formedB h l = true) : sameH h (canH h) = true := by
  have hw : wordsB h.set (canH h).set = true := by
    unfold canH wordsB
    simp only [decide_eq_true_eq]
    by_cases h2 : h.kind = 2
    · rw [if_pos h2, wd_byteSet _ 0 (by omega), wd_byteSet _ 1 (by omega), wd_byteSet _ 2 (by omega), wd_byteSet _ 3 (by omega)]
      exact ⟨rfl, rfl, rfl, rfl⟩
    · rw [if_neg h2]
      have hz := formed_zeroS hf h2
      have hn : ∀ i, wd noS i = 0 := fun i => wd_none i
      simp only [zeroS, decide_eq_true_eq] at hz
      simp [hn, hz]
  unfold sameH
  rw [hw]
  simp [canH]

mutual
theorem can_same : ∀ n, formB n = true → sameN n (canN n) = true
  | .mk h s, hf => by
    rw [formB, Bool.and_eq_true] at hf
    rw [canN, sameN, canH_same hf.1, canL_len s, canL_same s hf.2]
    simp
theorem canL_same : ∀ l, formL l = true → sameL l (canL l) = true
  | [], _ => by rw [canL, sameL]
  | n :: r, hf => by
    rw [formL, Bool.and_eq_true] at hf
    rw [canL, sameL, can_same n hf.1, canL_same r hf.2]
    rfl
theorem canL_len : ∀ l, (canL l).length = l.length
  | [] => by rw [canL]
  | n :: r => by rw [canL, List.length_cons, canL_len r, List.length_cons]
end

theorem numP_img {n : Nat} (h : n < 16384) (r : List UInt8) : numP (numB n ++ r, false) = (n, (r, false)) := by
  by_cases h1 : n < 128
  · rw [numB_small h1]
    have e : (b8 n).toNat = n := b8_nat (by omega)
    simp only [numP, List.singleton_append, tk, e]
    rw [if_pos h1]
  · rw [numB_big (by omega), numB_small (show n / 128 < 128 by omega)]
    have e : (b8 (128 + n % 128)).toNat = 128 + n % 128 := b8_nat (by omega)
    have e2 : (b8 (n / 128)).toNat = n / 128 := b8_nat (by omega)
    simp only [numP, List.cons_append, List.nil_append, tk, e, e2]
    rw [if_neg (by omega)]
    have e3 : decide (n / 128 = 0 ∨ 127 < n / 128) = false := by rw [decide_eq_false_iff_not]; omega
    rw [e3]
    simp only [Prod.mk.injEq, Bool.or_false, and_true]
    omega
theorem takesP_img : ∀ (k : Nat) (l r : List UInt8), l.length = k → takesP k (l ++ r, false) = (l, (r, false))
  | 0, l, r, h => by rw [List.eq_nil_of_length_eq_zero h]; rfl
  | k + 1, l, r, h => by
    obtain ⟨l', c, rfl⟩ : ∃ l' c, l = l' ++ [c] := ⟨l.dropLast, l.getLast (fun e => by subst e; cases h), (List.dropLast_concat_getLast _).symm⟩
    have := takesP_img k l' (c :: r) (by simpa using h)
    rw [List.append_assoc, List.singleton_append, takesP, this]
    rfl
theorem headP_img {h : Hd} {len : Nat} (hf : formedB h len = true) (hl : len < 16384) (r : List UInt8) : headP h.kind.toNat (headB h len ++ r, false) = ⟨canH h, len, (r, false)⟩ := by
  obtain ⟨kind, set, num, mn, mx, bare⟩ := h
  unfold formedB plainB at hf
  dsimp only at hf ⊢
  by_cases h1 : kind = 1 ∨ kind = 3 ∨ kind = 4
  · rw [if_pos h1] at hf
    simp only [Bool.and_eq_true, decide_eq_true_eq, Bool.not_eq_true'] at hf
    obtain ⟨⟨⟨⟨⟨_, rfl⟩, rfl⟩, rfl⟩, rfl⟩, rfl⟩ := hf
    rw [headB0 (by dsimp only; omega)]
    unfold headP canH
    rw [if_neg (by omega), if_neg (by omega), if_neg (by omega), if_neg (by omega), if_neg (by dsimp only; omega), show ((kind.toNat : Nat) : Int) = kind by omega]
    rfl
  rw [if_neg h1] at hf
  by_cases h2 : kind = 2
  · rw [if_pos h2] at hf
    simp only [Bool.and_eq_true, decide_eq_true_eq, Bool.not_eq_true'] at hf
    obtain ⟨⟨⟨⟨rfl, rfl⟩, rfl⟩, rfl⟩, rfl⟩ := hf
    subst h2
    rw [headB2 rfl]
    unfold headP canH
    rw [if_pos (show (2 : Int).toNat = 2 from rfl), if_pos rfl, takesP_img 32 (setB set) r (setB_len _)]
  rw [if_neg h2] at hf
  by_cases h5 : kind = 5 ∨ kind = 6
  · rw [if_pos h5] at hf
    simp only [Bool.and_eq_true, decide_eq_true_eq, Bool.not_eq_true'] at hf
    obtain ⟨⟨⟨⟨⟨_, rfl⟩, rfl⟩, rfl⟩, rfl⟩, _⟩ := hf
    rw [headB5 (by dsimp only; omega)]
    unfold headP canH
    rw [if_neg (by omega), if_pos (by omega), if_neg (by dsimp only; omega), numP_img hl, show ((kind.toNat : Nat) : Int) = kind by omega]
    rfl
  rw [if_neg h5] at hf
  by_cases h7 : kind = 7
  · rw [if_pos h7] at hf
    simp only [Bool.and_eq_true, decide_eq_true_eq, Bool.not_eq_true'] at hf
    obtain ⟨⟨⟨⟨⟨⟨_, n0⟩, n1⟩, rfl⟩, rfl⟩, rfl⟩, rfl⟩ := hf
    subst h7
    rw [headB7 rfl]
    unfold headP canH
    rw [if_neg (by decide), if_neg (by decide), if_pos (show (7 : Int).toNat = 7 from rfl), if_neg (by dsimp only; omega), numP_img (by dsimp only; omega), show ((num.toNat : Nat) : Int) = num by omega]
  rw [if_neg h7] at hf
  by_cases h8 : kind = 8
  · rw [if_pos h8] at hf
    simp only [Bool.and_eq_true, Bool.or_eq_true, decide_eq_true_eq] at hf
    obtain ⟨⟨⟨⟨⟨⟨_, rfl⟩, rfl⟩, n1⟩, n2⟩, _⟩, n3⟩ := hf
    subst h8
    rw [headB8 rfl, List.append_assoc, List.append_assoc, canH_ne (by dsimp only; omega)]
    unfold headP
    rw [if_neg (by decide), if_neg (by decide), if_neg (by decide), if_pos (show (8 : Int).toNat = 8 from rfl)]
    rw [numP_img (by dsimp only; omega)]
    dsimp only
    rw [numP_img (by omega)]
    dsimp only
    rw [show ((mn.toNat : Nat) : Int) = mn by omega, show (((mx + 1).toNat : Nat) : Int) - 1 = mx by omega]
    cases bare <;> rfl
  · rw [if_neg h8] at hf
    cases hf
theorem kind_range {h : Hd} {l : Nat} (hf : formedB h l = true) : 1 ≤ h.kind ∧ h.kind ≤ 8 := by
  unfold formedB at hf
  split at hf
  · omega
  split at hf
  · omega
  split at hf
  · omega
  split at hf
  · omega
  split at hf
  · omega
  · cases hf
theorem loopP_img {g : St → Nd × St} : ∀ (l : List Nd) (r : List UInt8), (∀ n ∈ l, ∀ r, g (imgN n ++ r, false) = (canN n, (r, false))) → loopP g l.length (imgL l ++ r, false) = (canL l, (r, false))
  | [], r, _ => by rw [imgL, canL]; rfl
  | n :: l, r, h => by
    rw [imgL, canL, List.length_cons, loopP, if_neg (fun e => by cases e), List.append_assoc, h n (by simp)]
    dsimp only
    rw [loopP_img l r (fun m hm => h m (by simp [hm]))]
theorem formL_mem {l : List Nd} (h : formL l = true) : ∀ n ∈ l, formB n = true := fun n hm => by
  obtain ⟨a, b, rfl⟩ := List.append_of_mem hm
  rw [formL_app, formL, Bool.and_eq_true, Bool.and_eq_true] at h
  exact h.2.1
theorem shortL_mem : ∀ {l : List Nd}, shortL l → ∀ n ∈ l, shortN n
  | _ :: _, h, n, hm => by
    rcases List.mem_cons.1 hm with rfl | hm
    · exact h.1
    · exact shortL_mem h.2 n hm
theorem heightL_mem : ∀ {l : List Nd} {f : Nat}, heightL l ≤ f → ∀ n ∈ l, heightN n ≤ f
  | m :: l, f, h, n, hm => by
    rw [heightL] at h
    rcases List.mem_cons.1 hm with rfl | hm
    · omega
    · exact heightL_mem (l := l) (by omega) n hm
theorem nodeP_img : ∀ (f : Nat) (n : Nd) (r : List UInt8), formB n = true → shortN n → heightN n ≤ f → nodeP f (imgN n ++ r, false) = (canN n, (r, false))
  | 0, .mk h s, r, _, _, hh => by rw [heightN] at hh; omega
  | f + 1, .mk h s, r, hf, hs, hh => by
    rw [formB, Bool.and_eq_true] at hf
    obtain ⟨hs1, hs2⟩ := hs
    rw [heightN] at hh
    have hk := kind_range hf.1
    have e : headOf (imgN (.mk h s) ++ r, false) = ⟨canH h, s.length, (imgL s ++ r, false)⟩ := by
      unfold headOf
      rw [imgN, List.cons_append]
      simp only [tk]
      rw [b8_nat (by omega), List.append_assoc, headP_img hf.1 hs1]
    rw [nodeP, e, canN]
    dsimp only
    rw [loopP_img s r (fun n hm r => nodeP_img f n r (formL_mem hf.2 n hm) (shortL_mem hs2 n hm) (heightL_mem (by omega) n hm))]

/-! ### the reader of the reference -/
abbrev Sr := List UInt8 × Int
def cntR : Nat → Int → Int → List UInt8 → Int × List UInt8
  | 0, _, _, l => (-1, l)
  | _ + 1, _, _, [] => (-1, [])
  | f + 1, n, u, c :: r => if 1000000 < u then (-1, r) else if c.toNat < 128 then (n + u * (c.toNat % 128 : Nat), r) else cntR f (n + u * (c.toNat % 128 : Nat)) (u * 128) r
def countR (l : List UInt8) : Int × List UInt8 := cntR 5 0 1 l
structure HeadR where
  h : Hd
  m : Nat
  l : List UInt8
def repR (mn mx : Int) : List UInt8 → Option HeadR
  | [] => none
  | c :: r => if mn < 0 ∨ mx < -1 ∨ 1 < c.toNat then none else some ⟨⟨8, noS, 0, mn, mx, c == 1⟩, 1, r⟩
def headR (k : Nat) (l : List UInt8) : Option HeadR :=
  if k = 2 then (if l.length < 32 then none else some ⟨⟨2, byteSet (l.take 32), 0, 0, 0, false⟩, 0, l.drop 32⟩)
  else if k = 5 ∨ k = 6 then some ⟨hdV k, (countR l).1.toNat, (countR l).2⟩
  else if k = 7 then some ⟨⟨7, noS, (countR l).1, 0, 0, false⟩, 1, (countR l).2⟩
  else if k = 8 then repR (countR l).1 ((countR (countR l).2).1 - 1) (countR (countR l).2).2
  else some ⟨hdV k, 0, l⟩
def loopR (g : Sr → Option (Nd × Sr)) : Nat → Sr → Option (List Nd × Sr)
  | 0, s => some ([], s)
  | m + 1, s => (g s).bind fun x => (loopR g m x.2).map fun y => (x.1 :: y.1, y.2)
def nodeR : Nat → Sr → Option (Nd × Sr)
  | 0, _ => none
  | _ + 1, ([], _) => none
  | f + 1, (c :: r, left) => if left < 1 then none else (headR c.toNat r).bind fun x => (loopR (nodeR f) x.m (x.l, left - 1)).map fun y => (.mk x.h y.1, y.2)
theorem countR_img {n : Nat} (h : n < 16384) (r : List UInt8) : countR (numB n ++ r) = ((n : Int), r) := by
  unfold countR
  by_cases h1 : n < 128
  · rw [numB_small h1, List.singleton_append, cntR, if_neg (by decide), b8_nat (by omega), if_pos h1]
    simp only [Prod.mk.injEq, and_true]
    omega
  · rw [numB_big (by omega), numB_small (show n / 128 < 128 by omega), List.cons_append, cntR, if_neg (by decide), b8_nat (by omega), if_neg (by omega), List.singleton_append, cntR, if_neg (by decide), b8_nat (by omega), if_pos (by omega)]
    simp only [Prod.mk.injEq, and_true]
    omega
theorem headR_img {h : Hd} {len : Nat} (hf : formedB h len = true) (hl : len < 16384) (r : List UInt8) : headR h.kind.toNat (headB h len ++ r) = some ⟨canH h, len, r⟩ := by
  obtain ⟨kind, set, num, mn, mx, bare⟩ := h
  unfold formedB plainB at hf
  dsimp only at hf ⊢
  by_cases h1 : kind = 1 ∨ kind = 3 ∨ kind = 4
  · rw [if_pos h1] at hf
    simp only [Bool.and_eq_true, decide_eq_true_eq, Bool.not_eq_true'] at hf
    obtain ⟨⟨⟨⟨⟨_, rfl⟩, rfl⟩, rfl⟩, rfl⟩, rfl⟩ := hf
    rw [headB0 (by dsimp only; omega)]
    unfold headR canH
    rw [if_neg (by omega), if_neg (by omega), if_neg (by omega), if_neg (by omega), if_neg (by dsimp only; omega), show ((kind.toNat : Nat) : Int) = kind by omega]
    rfl
  rw [if_neg h1] at hf
  by_cases h2 : kind = 2
  · rw [if_pos h2] at hf
    simp only [Bool.and_eq_true, decide_eq_true_eq, Bool.not_eq_true'] at hf
    obtain ⟨⟨⟨⟨rfl, rfl⟩, rfl⟩, rfl⟩, rfl⟩ := hf
    subst h2
    rw [headB2 rfl]
    unfold headR canH
    have hl := setB_len set
    dsimp only
    rw [if_pos (show (2 : Int).toNat = 2 from rfl), if_pos rfl, if_neg (by rw [List.length_append, hl]; omega), List.take_left' hl, List.drop_left' hl]
  rw [if_neg h2] at hf
  by_cases h5 : kind = 5 ∨ kind = 6
  · rw [if_pos h5] at hf
    simp only [Bool.and_eq_true, decide_eq_true_eq, Bool.not_eq_true'] at hf
    obtain ⟨⟨⟨⟨⟨_, rfl⟩, rfl⟩, rfl⟩, rfl⟩, _⟩ := hf
    rw [headB5 (by dsimp only; omega)]
    unfold headR canH
    rw [if_neg (by omega), if_pos (by omega), if_neg (by dsimp only; omega), countR_img hl, show ((kind.toNat : Nat) : Int) = kind by omega]
    rfl
  rw [if_neg h5] at hf
  by_cases h7 : kind = 7
  · rw [if_pos h7] at hf
    simp only [Bool.and_eq_true, decide_eq_true_eq, Bool.not_eq_true'] at hf
    obtain ⟨⟨⟨⟨⟨⟨_, n0⟩, n1⟩, rfl⟩, rfl⟩, rfl⟩, rfl⟩ := hf
    subst h7
    rw [headB7 rfl]
    unfold headR canH
    rw [if_neg (by decide), if_neg (by decide), if_pos (show (7 : Int).toNat = 7 from rfl), if_neg (by dsimp only; omega), countR_img (by dsimp only; omega)]
    dsimp only
    rw [show ((num.toNat : Nat) : Int) = num by omega]
  rw [if_neg h7] at hf
  by_cases h8 : kind = 8
  · rw [if_pos h8] at hf
    simp only [Bool.and_eq_true, Bool.or_eq_true, decide_eq_true_eq] at hf
    obtain ⟨⟨⟨⟨⟨⟨_, rfl⟩, rfl⟩, n1⟩, n2⟩, _⟩, n3⟩ := hf
    subst h8
    rw [headB8 rfl, List.append_assoc, List.append_assoc, canH_ne (by dsimp only; omega)]
    unfold headR
    rw [if_neg (by decide), if_neg (by decide), if_neg (by decide), if_pos (show (8 : Int).toNat = 8 from rfl)]
    rw [countR_img (by dsimp only; omega)]
    dsimp only
    rw [countR_img (by omega)]
    dsimp only
    rw [show ((mn.toNat : Nat) : Int) = mn by omega, show (((mx + 1).toNat : Nat) : Int) - 1 = mx by omega, List.singleton_append, repR]
    have hc : (if bare = true then (1 : UInt8) else 0).toNat ≤ 1 := by cases bare <;> decide
    rw [if_neg (by omega)]
    cases bare <;> rfl
  · rw [if_neg h8] at hf
    cases hf
theorem loopR_img {g : Sr → Option (Nd × Sr)} : ∀ (l : List Nd) (r : List UInt8) (left : Int), nodesL l ≤ left → (∀ n ∈ l, ∀ r left, nodesN n ≤ left → g (imgN n ++ r, left) = some (canN n, (r, left - nodesN n))) → loopR g l.length (imgL l ++ r, left) = some (canL l, (r, left - nodesL l))
  | [], r, left, _, _ => by rw [imgL, canL, nodesL, Int.sub_zero]; rfl
  | n :: l, r, left, hn, h => by
    rw [nodesL] at hn
    have := nodesL_pos l
    rw [imgL, canL, List.length_cons, loopR, List.append_assoc, h n (by simp) _ _ (by omega)]
    dsimp only [Option.bind_some]
    rw [loopR_img l r _ (by omega) (fun m hm => h m (by simp [hm])), nodesL]
    simp only [Option.map_some, Option.some.injEq, Prod.mk.injEq, true_and]
    omega
theorem nodeR_img : ∀ (f : Nat) (n : Nd) (r : List UInt8) (left : Int), formB n = true → shortN n → heightN n ≤ f → nodesN n ≤ left → nodeR f (imgN n ++ r, left) = some (canN n, (r, left - nodesN n))
  | 0, .mk h s, r, left, _, _, hh, _ => by rw [heightN] at hh; omega
  | f + 1, .mk h s, r, left, hf, hs, hh, hn => by
    rw [formB, Bool.and_eq_true] at hf
    obtain ⟨hs1, hs2⟩ := hs
    rw [heightN] at hh
    rw [nodesN] at hn
    have := nodesL_pos s
    have hk := kind_range hf.1
    rw [imgN, List.cons_append, nodeR, if_neg (by omega), b8_nat (by omega), List.append_assoc, headR_img hf.1 hs1]
    dsimp only [Option.bind_some]
    rw [loopR_img s r _ (by omega) (fun n hm r left h => nodeR_img f n r left (formL_mem hf.2 n hm) (shortL_mem hs2 n hm) (heightL_mem (by omega) n hm) h), canN, nodesN]
    simp only [Option.map_some, Option.some.injEq, Prod.mk.injEq, true_and]
    omega
theorem loopR_nodes {g : Sr → Option (Nd × Sr)} (hg : ∀ s n s', g s = some (n, s') → nodesN n + s'.2 = s.2) : ∀ (m : Nat) (s : Sr) (l : List Nd) (s' : Sr), loopR g m s = some (l, s') → nodesL l + s'.2 = s.2
  | 0, s, l, s', h => by
    simp only [loopR, Option.some.injEq, Prod.mk.injEq] at h
    obtain ⟨rfl, rfl⟩ := h
    rw [nodesL]; omega
  | m + 1, s, l, s', h => by
    rw [loopR, Option.bind_eq_some_iff] at h
    obtain ⟨x, hx, h⟩ := h
    rw [Option.map_eq_some_iff] at h
    obtain ⟨y, hy, h⟩ := h
    simp only [Prod.mk.injEq] at h
    obtain ⟨rfl, rfl⟩ := h
    have h1 := hg s x.1 x.2 hx
    have h2 := loopR_nodes hg m x.2 y.1 y.2 hy
    rw [nodesL]; omega
theorem nodeR_nodes : ∀ (f : Nat) (s : Sr) (n : Nd) (s' : Sr), nodeR f s = some (n, s') → nodesN n + s'.2 = s.2
  | 0, s, n, s', h => by simp [nodeR] at h
  | f + 1, ([], left), n, s', h => by simp [nodeR] at h
  | f + 1, (c :: r, left), n, s', h => by
    rw [nodeR] at h
    by_cases hl : left < 1
    · rw [if_pos hl] at h; cases h
    · rw [if_neg hl, Option.bind_eq_some_iff] at h
      obtain ⟨x, hx, h⟩ := h
      rw [Option.map_eq_some_iff] at h
      obtain ⟨y, hy, h⟩ := h
      simp only [Prod.mk.injEq] at h
      obtain ⟨rfl, rfl⟩ := h
      have h2 := loopR_nodes (nodeR_nodes f) x.m _ y.1 y.2 hy
      dsimp only at h2
      rw [nodesN]; dsimp only; omega

end Go.Proofs.YthddlhpndaffjaaDoor
