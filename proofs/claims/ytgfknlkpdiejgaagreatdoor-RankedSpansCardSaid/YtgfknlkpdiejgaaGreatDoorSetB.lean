/- The program's Join, Meet and Count as contracts over the sets' bytes. No condition but the number of sets that come in. -/
import Derived.Test.YtgfknlkpdiejgaaGreatDoorSetA
namespace Go.Proofs.YtgfknlkpdiejgaaGreatDoor
open Go.RowKit

/-- Four words. -/
def wC (a : Nat → Nat) : Array Value := #[u64v (a 0), u64v (a 1), u64v (a 2), u64v (a 3)]
theorem wC_get (a : Nat → Nat) (i : Nat) (h : i < 4) : (wC a)[i]? = some (u64v (a i)) := by
  rcases (show i = 0 ∨ i = 1 ∨ i = 2 ∨ i = 3 from by omega) with rfl | rfl | rfl | rfl <;> rfl
/-- The first k words of one, the others of another one. -/
def mix (a b : Nat → Nat) (k : Nat) : Nat → Nat := fun j => if j < k then a j else b j
theorem mix_zero (a b : Nat → Nat) : mix a b 0 = b := by funext j; unfold mix; rw [if_neg (by omega)]
theorem mix_at (a b : Nat → Nat) (k : Nat) : mix a b k k = b k := by unfold mix; rw [if_neg (by omega)]
theorem wC_full (a b : Nat → Nat) (k : Nat) (h : 4 ≤ k) : wC (mix a b k) = wC a := by
  unfold wC mix
  rw [if_pos (by omega), if_pos (by omega), if_pos (by omega), if_pos (by omega)]
theorem wC_put (a b : Nat → Nat) (k : Nat) (h : k < 4) : (wC (mix a b k)).setIfInBounds k (u64v (a k)) = wC (mix a b (k + 1)) := by
  unfold wC mix
  rcases (show k = 0 ∨ k = 1 ∨ k = 2 ∨ k = 3 from by omega) with rfl | rfl | rfl | rfl <;> rfl
theorem setC_wC (p : Nat → Bool) : setC p = wC (wd p) := rfl

def noB : Nat → Bool := fun _ => false
/-- A slice of sets reads as a list. -/
def RdS (w : World) (v : Value) (ps : List (Nat → Bool)) : Prop :=
  ∃ A c, v = .slice A ps.length c ∧ ∀ j, j < ps.length → ∃ g o, A = some ⟨g, o, none⟩ ∧ ∀ i, i < 4 → w.cell? ⟨g, o + j * 4 + i, none⟩ = some (u64v (wd (ps.getD j noB) i))
theorem RdS.ext {w w' : World} {v : Value} {ps : List (Nat → Bool)} (h : RdS w v ps) (hx : Ext w w') : RdS w' v ps := by
  obtain ⟨A, c, hv, hc⟩ := h
  exact ⟨A, c, hv, fun j hj => by obtain ⟨g, o, hA, hcell⟩ := hc j hj; exact ⟨g, o, hA, fun i hi => hx.cell (hcell i hi)⟩⟩

def joinL (ps : List (Nat → Bool)) : Nat → Bool := fun b => ps.any (· b)
def meetL (ps : List (Nat → Bool)) : Nat → Bool := fun b => ps.all (· b)
theorem take_snocL {α : Type} (l : List α) (d : α) (k : Nat) (h : k < l.length) : l.take (k + 1) = l.take k ++ [l.getD k d] := by
  rw [List.take_succ_eq_append_getElem h, List.getD_eq_getElem?_getD, List.getElem?_eq_getElem h]
  rfl
theorem joinL_snoc (ps : List (Nat → Bool)) (k : Nat) (h : k < ps.length) : joinL (ps.take (k + 1)) = fun b => joinL (ps.take k) b || ps.getD k noB b := by
  funext b
  unfold joinL
  rw [take_snocL ps noB k h, List.any_append]
  simp
theorem meetL_snoc (ps : List (Nat → Bool)) (k : Nat) (h : k < ps.length) : meetL (ps.take (k + 1)) = fun b => meetL (ps.take k) b && ps.getD k noB b := by
  funext b
  unfold meetL
  rw [take_snocL ps noB k h, List.all_append]
  simp

theorem or_words (p q : Nat → Bool) (i : Nat) : bits .or .u64 (wd p i : Int) (wd q i : Int) = (wd (fun b => p b || q b) i : Int) := by
  rw [u64_or_nat _ _ (wd_lt p i) (wd_lt q i), wd_or]
theorem and_words (p q : Nat → Bool) (i : Nat) : bits .and .u64 (wd p i : Int) (wd q i : Int) = (wd (fun b => p b && q b) i : Int) := by
  rw [u64_and_nat _ _ (wd_lt p i) (wd_lt q i), wd_and]

theorem wd_full (i : Nat) : wd (fun b => !noB b) i = wd (fun _ => true) i := rfl
theorem mask85 : dg 8 (fun _ => 85) = 6148914691236517205 := by decide
theorem mask51 : dg 8 (fun _ => 51) = 3689348814741910323 := by decide
theorem mask15 : dg 8 (fun _ => 15) = 1085102592571150095 := by decide

theorem u64_wrap_nat (x : Nat) (h : x < 18446744073709551616) : IntKind.u64.wrap (x : Int) = (x : Int) := by rw [IntKind.wrap_u64]; omega
theorem ones_step (a b M : Nat) (ha : a < 18446744073709551616) (hb : b < 18446744073709551616) (hM : M < 18446744073709551616) (h : (a &&& M) + (b &&& M) < 18446744073709551616) :
    IntKind.u64.wrap (bits .and .u64 (a : Int) (M : Int) + bits .and .u64 (b : Int) (M : Int)) = (((a &&& M) + (b &&& M) : Nat) : Int) := by
  rw [u64_and_nat _ _ ha hM, u64_and_nat _ _ hb hM, ← Int.natCast_add, u64_wrap_nat _ h]
theorem ones_shift (x d : Nat) (h : x + x / d < 18446744073709551616) : IntKind.u64.wrap ((x : Int) + (x : Int) / (d : Int)) = ((x + x / d : Nat) : Int) := by
  rw [← Int.natCast_ediv, ← Int.natCast_add, u64_wrap_nat _ h]

theorem cntB_words (p : Nat → Bool) : cntB p 256 = cntB (fun k => p (64 * 0 + k)) 64 + cntB (fun k => p (64 * 1 + k)) 64 + cntB (fun k => p (64 * 2 + k)) 64 + cntB (fun k => p (64 * 3 + k)) 64 := by
  have h3 := cntB_add p 192 64
  have h2 := cntB_add p 128 64
  have h1 := cntB_add p 64 64
  have e0 : (fun k => p (64 * 0 + k)) = p := by funext k; congr 1; omega
  rw [e0]
  simp only [Nat.reduceMul, Nat.reduceAdd] at *
  omega

end Go.Proofs.YtgfknlkpdiejgaaGreatDoor
