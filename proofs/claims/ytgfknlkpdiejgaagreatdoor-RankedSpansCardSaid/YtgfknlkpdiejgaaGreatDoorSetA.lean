/- The program's Of and Range as contracts over the set's bytes. No condition but the length of what comes in. -/
import Derived.Test.YtgfknlkpdiejgaaGreatDoorOctet
import Derived.Laws.Tables
import Derived.Laws.CopyOwn
import Derived.Test.YtgfknlkpdiejgaaGreatDoorPop
namespace Go.Proofs.YtgfknlkpdiejgaaGreatDoor
open Go.RowKit

theorem i64_mask63 (k : Nat) (h : k < 9223372036854775808) : bits .and .i64 (k : Int) 63 = ((k % 64 : Nat) : Int) := by
  have hx : (BitVec.ofInt 64 (k : Int)).toNat = k := by
    rw [BitVec.ofInt_natCast, BitVec.toNat_ofNat]; exact Nat.mod_eq_of_lt (by omega)
  show IntKind.i64.wrap ((BitVec.ofInt 64 (k : Int) &&& BitVec.ofInt 64 63).toNat : Int) = _
  have h63 : (BitVec.ofInt 64 63).toNat = 2 ^ 6 - 1 := by decide
  rw [BitVec.toNat_and, hx, h63, Nat.and_two_pow_sub_one_eq_mod, IntKind.wrap_i64]
  omega
/-- The bytes of a list. -/
def ofL (l : List Nat) : Nat → Bool := fun b => l.contains b
/-- A slice of bytes reads as a list. -/
def RdB (w : World) (v : Value) (l : List Nat) : Prop :=
  ∃ A c, v = .slice A l.length c ∧ ∀ j, j < l.length → ∃ g o, A = some ⟨g, o, none⟩ ∧ w.cell? ⟨g, o + j, none⟩ = some (.int .u8 (l.getD j 0 : Nat))
theorem RdB.ext {w w' : World} {v : Value} {l : List Nat} (h : RdB w v l) (hx : Ext w w') : RdB w' v l := by
  obtain ⟨A, c, hv, hc⟩ := h
  exact ⟨A, c, hv, fun j hj => by obtain ⟨g, o, hA, hcell⟩ := hc j hj; exact ⟨g, o, hA, hx.cell hcell⟩⟩

theorem ofL_snoc (l : List Nat) (k : Nat) (h : k < l.length) : ofL (l.take (k + 1)) = insB (ofL (l.take k)) (l.getD k 0) := by
  funext x
  unfold ofL insB
  rw [List.getD_eq_getElem?_getD, List.getElem?_eq_getElem h, List.take_succ_eq_append_getElem h, Bool.eq_iff_iff]
  simp only [List.contains_eq_mem, decide_eq_true_eq, List.mem_append, List.mem_singleton, Option.getD_some, Bool.or_eq_true, beq_iff_eq]
/-- The bytes from lo up to k (k itself not). -/
def upTo (lo k : Nat) : Nat → Bool := fun x => decide (lo ≤ x) && decide (x < k)
def rangeB (lo hi : Nat) : Nat → Bool := fun x => decide (lo ≤ x) && decide (x ≤ hi)
theorem upTo_ins (lo k : Nat) (h : lo ≤ k) : insB (upTo lo k) k = upTo lo (k + 1) := by
  funext x
  unfold insB upTo
  rw [Bool.eq_iff_iff]
  simp only [Bool.or_eq_true, Bool.and_eq_true, decide_eq_true_eq, beq_iff_eq]
  omega
theorem upTo_self (lo : Nat) : upTo lo lo = fun _ => false := by
  funext x
  unfold upTo
  rw [Bool.eq_iff_iff]
  simp only [Bool.and_eq_true, decide_eq_true_eq, Bool.false_eq_true, iff_false]
  omega
theorem upTo_range (lo hi k : Nat) (h2 : ¬ k ≤ hi) (h3 : k ≤ hi + 1 ∨ k = lo) : upTo lo k = rangeB lo hi := by
  funext x
  unfold upTo rangeB
  rw [Bool.eq_iff_iff]
  simp only [Bool.and_eq_true, decide_eq_true_eq]
  omega

end Go.Proofs.YtgfknlkpdiejgaaGreatDoor
