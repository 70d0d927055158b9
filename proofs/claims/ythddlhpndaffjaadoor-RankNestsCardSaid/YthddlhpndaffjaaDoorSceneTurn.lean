/- The turned scene as a contract, and the reference's text of a scene. Subjects of at most a million bytes. -/
import Derived.Test.YthddlhpndaffjaaDoorScene
import Derived.Test.YthddlhpndaffjaaDoorSceneRef
namespace Go.Proofs.YthddlhpndaffjaaDoor
open Go.RowKit

/-- The two bits change places. -/
def swp (v : UInt8) : UInt8 := v >>> 1 ||| (v &&& 1) <<< 1
theorem swp_mk (b e : Bool) : swp (mk b e) = mk e b := by cases b <;> cases e <;> rfl
theorem swp_bits (z : UInt8) : bits .or .u8 ((z.toNat : Int) / 2) (bits .and .u8 (z.toNat : Int) 1 * 2 % 256) = ((swp z).toNat : Int) := by
  have h1 := u8_and_nat z.toNat 1 z.toNat_lt (by decide)
  have e1 : bits .and .u8 (z.toNat : Int) 1 = ((z.toNat &&& 1 : Nat) : Int) := h1
  rw [e1]
  have hz := z.toNat_lt
  have hb : z.toNat &&& 1 < 2 := by rw [nat_mask1]; omega
  have e2 : ((z.toNat : Int) / 2) = ((z.toNat / 2 : Nat) : Int) := by omega
  have e3 : (((z.toNat &&& 1 : Nat) : Int) * 2 % 256) = (((z.toNat &&& 1) * 2 : Nat) : Int) := by omega
  rw [e2, e3, u8_or_nat _ _ (by omega) (by omega)]
  congr 1
  unfold swp
  simp only [UInt8.toNat_or, UInt8.toNat_shiftRight, UInt8.toNat_shiftLeft, UInt8.toNat_and]
  have e4 : (1 : UInt8).toNat = 1 := rfl
  rw [e4]
  simp only [Nat.shiftRight_eq_div_pow, Nat.shiftLeft_eq]
  have e5 : (z.toNat &&& 1) * 2 ^ (1 % 8) % 2 ^ 8 = (z.toNat &&& 1) * 2 := by
    rw [Nat.mod_eq_of_lt]
    have : (2 : Nat) ^ (1 % 8) = 2 := rfl
    rw [this]; omega
  rw [e5]
def turnS (s : ByteArray) : ByteArray := ⟨s.data.toList.reverse.toArray⟩
def turnM (m : List UInt8) : List UInt8 := (m.map swp).reverse
@[simp] theorem turnS_size (s : ByteArray) : (turnS s).size = s.size := by
  show (s.data.toList.reverse.toArray).size = s.data.size
  simp
@[simp] theorem turnM_len (m : List UInt8) : (turnM m).length = m.length := by simp [turnM]

/-- A row filled from its end: what is there after k rounds. -/
def backTo (n k : Nat) (l : List UInt8) : List UInt8 := List.replicate (n - k) 0 ++ (l.take k).reverse
theorem backTo_len (n k : Nat) (l : List UInt8) (h : k ≤ n) (hl : l.length = n) : (backTo n k l).length = n := by simp [backTo]; omega
theorem backTo_zero (n : Nat) (l : List UInt8) : backTo n 0 l = List.replicate n 0 := by simp [backTo]
theorem backTo_full (l : List UInt8) (n : Nat) (h : n = l.length) : backTo n n l = l.reverse := by subst h; simp [backTo]
theorem backTo_step (n k : Nat) (l : List UInt8) (hk : k < n) (hl : l.length = n) : (backTo n k l).set (n - 1 - k) (l.getD k 0) = backTo n (k + 1) l := by
  unfold backTo
  have h1 : n - k = (n - 1 - k) + 1 := by omega
  have h2 : n - (k + 1) = n - 1 - k := by omega
  rw [h1, h2, List.set_append_left _ _ (by simp)]
  have h3 : (List.replicate ((n - 1 - k) + 1) (0 : UInt8)).set (n - 1 - k) (l.getD k 0) = List.replicate (n - 1 - k) 0 ++ [l.getD k 0] := by
    rw [List.replicate_succ', List.set_append_right _ _ (by simp)]
    simp
  rw [h3, List.take_succ_eq_append_getElem (by omega), List.reverse_append, List.append_assoc]
  simp [List.getD_eq_getElem?_getD, List.getElem?_eq_getElem (show k < l.length by omega)]

end Go.Proofs.YthddlhpndaffjaaDoor
