/- Bytes and strings in memory: conversions and slices of bytes. No condition. -/
import Derived.Test.YtkcgbdoplhgbmaaDoorProg
import Derived.Test.YtkcgbdoplhgbmaaDoorKeeps
import Derived.Laws.IdiomStrings
import Derived.Laws.Concat
import Derived.Lib.BufferRead
namespace Go.Proofs.YtkcgbdoplhgbmaaDoor
open Go.RowKit

/-- Bytes as cells; a string of these bytes. -/
def uC (l : List UInt8) : List Value := l.map fun b => .int .u8 (b.toNat : Int)
def strV (l : List UInt8) : Value := .string ⟨l.toArray⟩
theorem uC_len (l : List UInt8) : (uC l).length = l.length := by simp [uC]
theorem uC_one (l : List UInt8) : ∀ u ∈ uC l, u.oneCell' = true := fun u hu => by
  unfold uC at hu
  obtain ⟨b, _, rfl⟩ := List.mem_map.1 hu
  rfl
theorem uC_app (a b : List UInt8) : uC a ++ uC b = uC (a ++ b) := by simp [uC]
theorem uC_get (l : List UInt8) (j : Nat) (h : j < l.length) : (uC l)[j]? = some (.int .u8 ((l.getD j 0).toNat : Int)) := by
  unfold uC
  rw [List.getElem?_map, List.getD_eq_getElem?_getD, List.getElem?_eq_getElem h]
  rfl
theorem strV_one (l : List (List UInt8)) : ∀ u ∈ l.map strV, u.oneCell' = true := fun u hu => by
  obtain ⟨b, _, rfl⟩ := List.mem_map.1 hu
  rfl
/-- The cells from a on hold these bytes. -/
def RdA (w : World) (a : Addr) (b : List UInt8) : Prop := ∀ j, j < b.length → w.cell? (a.add j) = some (.int .u8 ((b.getD j 0).toNat : Int))
theorem add_block (a : Addr) (j : Nat) : (a.add j).block = a.block := by unfold Addr.add; split <;> rfl
theorem add_add (a : Addr) (i j : Nat) : (a.add i).add j = a.add (i + j) := by
  unfold Addr.add
  by_cases hi : i = 0
  · subst hi; simp
  · by_cases hj : j = 0
    · subst hj; simp [hi]
    · rw [if_neg hi, if_neg hj, if_neg (by omega)]
      simp only [Nat.add_assoc]
theorem RdA.keeps {F : Nat → Prop} {w w' : World} {a : Addr} {b : List UInt8} (h : RdA w a b) (k : Keeps F w w') (hF : b ≠ [] → ¬ F a.block) : RdA w' a b := fun j hj =>
  cell_keeps (h j hj) k (by rw [add_block]; exact hF (by intro e; rw [e] at hj; exact absurd hj (Nat.not_lt_zero _)))
theorem RdA.ext {w w' : World} {a : Addr} {b : List UInt8} (h : RdA w a b) (k : Ext w w') : RdA w' a b := fun j hj => k.cell (h j hj)
theorem RdA.take {w : World} {a : Addr} {p r : List UInt8} (h : RdA w a (p ++ r)) : RdA w a p := fun j hj => by
  rw [h j (by rw [List.length_append]; omega), List.getD_eq_getElem?_getD, List.getElem?_append_left hj, ← List.getD_eq_getElem?_getD]
theorem RdA.drop {w : World} {a : Addr} {p r : List UInt8} (h : RdA w a (p ++ r)) : RdA w (a.add p.length) r := fun j hj => by
  rw [add_add, h (p.length + j) (by rw [List.length_append]; omega), List.getD_eq_getElem?_getD, List.getElem?_append_right (Nat.le_add_right _ _), Nat.add_sub_cancel_left, ← List.getD_eq_getElem?_getD]
theorem RdA.cells {w : World} {a : Addr} {b : List UInt8} (h : RdA w a b) : ∀ j u, (uC b)[j]? = some u → w.cell? (a.add j) = some u := fun j u hu => by
  have hj : j < b.length := by
    have := (List.getElem?_eq_some_iff.1 hu).1
    rwa [uC_len] at this
  rw [h j hj, ← hu, uC_get b j hj]
theorem RdA.of_cells {w : World} {a : Addr} {b : List UInt8} (h : ∀ j u, (uC b)[j]? = some u → w.cell? (a.add j) = some u) : RdA w a b := fun j hj => h j _ (uC_get b j hj)
theorem RdA.of_own {w : World} {B : Nat} {e : TypeId} {g n cap : Nat} {b : List UInt8} (h : Own1 w B e (.slice (some ⟨g, 0, none⟩) n cap) (uC b)) : RdA w ⟨g, 0, none⟩ b := RdA.of_cells fun j u hu => by
  have ea : (⟨g, 0, none⟩ : Addr).add j = ⟨g, j, none⟩ := by unfold Addr.add; split <;> simp_all
  rw [ea]
  exact h.cells.2 j u hu

/-- 'string(b)' of bytes at an address; of a row of the program's own. -/
theorem conv_at (w : World) (a : Addr) (c : Nat) (b : List UInt8) (h : RdA w a b) : (convert 110 9 (.slice (some a) b.length c)).run Tryd.prog w = .ok (strV b) w :=
  run_convert_bytes_back w 110 9 5 a c b Tryd.underlying110 Tryd.underlying5 Tryd.underlying9 (fun j hj => by
    rw [h j hj, List.getD_eq_getElem?_getD, List.getElem?_eq_getElem hj]
    rfl)
theorem conv_own (w : World) (B : Nat) (e : TypeId) (v : Value) (b : List UInt8) (h : Own1 w B e v (uC b)) : (convert 110 9 v).run Tryd.prog w = .ok (strV b) w := by
  rcases h.slice with ⟨rfl, h0⟩ | ⟨g, cap, cur, rfl, _⟩
  · have : b = [] := by simpa [uC] using h0
    subst this
    exact Lib.run_convert_nil_bytes w 110 9 5 0 Tryd.underlying110 Tryd.underlying5 Tryd.underlying9
  · rw [uC_len]
    rw [uC_len] at h
    exact conv_at w _ _ b (RdA.of_own h)
theorem add_str (p q : List UInt8) (h : p.length + q.length ≤ 9223372036854775807) (w : World) : (Op.stringOp .add ⟨p.toArray⟩ ⟨q.toArray⟩).run Tryd.prog w = .ok (strV (p ++ q)) w := by
  have hs := run_string_add_sum (P := Tryd.prog) (w := w) ⟨p.toArray⟩ ⟨q.toArray⟩ (by simpa [ByteArray.size] using h)
  have e : (⟨p.toArray⟩ : ByteArray) ++ ⟨q.toArray⟩ = ⟨(p ++ q).toArray⟩ := by
    apply ByteArray.ext
    simp
  rw [e] at hs
  exact hs

theorem add_strV (p q : List UInt8) (h : p.length + q.length ≤ 9223372036854775807) (w : World) : (binOp .add 9 (strV p) (strV q)).run Tryd.prog w = .ok (strV (p ++ q)) w := by
  have hs := add_str p q h w
  simp only [binOp, strV]
  simp [hs, strV]

/-- The tail of a slice from l on: where nothing is left of the capacity the address stays. -/
def tlA (a : Addr) (c l : Nat) : Addr := if c = l then a else a.add l
theorem tlA_block (a : Addr) (c l : Nat) : (tlA a c l).block = a.block := by unfold tlA; split; rfl; exact add_block a l
theorem RdA.tail {w : World} {a : Addr} {p q : List UInt8} {x : UInt8} {c : Nat} (h : RdA w a (p ++ x :: q)) (hc : (p ++ x :: q).length ≤ c) : RdA w (tlA a c (p.length + 1)) q := by
  unfold tlA
  by_cases h0 : c = p.length + 1
  · intro j hj
    simp only [List.length_append, List.length_cons] at hc
    omega
  · rw [if_neg h0]
    have e : p ++ x :: q = (p ++ [x]) ++ q := by simp
    rw [e] at h
    have := h.drop
    rwa [show (p ++ [x]).length = p.length + 1 by simp] at this
theorem size_u8 (w : World) : (sizeOf 5).run Tryd.prog w = .ok 1 w := by kernel_rfl
theorem elem_u8 : Tryd.prog.elem 110 = 5 := by kernel_rfl
theorem slice_to (w : World) (a : Addr) (n c i : Nat) (h : i ≤ n) (hc : n ≤ c) : (Instr.slice 110 (.slice (some a) n c) none (some (.int .i64 (i : Int))) none).run Tryd.prog w = .ok (.slice (some a) i c) w := by
  have ht : Tryd.prog.underlying 110 = some (.slice (Tryd.prog.elem 110)) := by rw [elem_u8]; exact Tryd.underlying110
  rw [run_slice_h w 110 _ _ _ ht .i64 _ (by omega) (by omega), elem_u8, size_u8]
  simp [Result.andThen, sliced, Addr.add]
theorem slice_from (w : World) (a : Addr) (n c i : Nat) (h : i ≤ n) : (Instr.slice 110 (.slice (some a) n c) (some (.int .i64 (i : Int))) none none).run Tryd.prog w = .ok (.slice (some (tlA a c i)) (n - i) (c - i)) w := by
  have ht : Tryd.prog.underlying 110 = some (.slice (Tryd.prog.elem 110)) := by rw [elem_u8]; exact Tryd.underlying110
  rw [run_slice_l w 110 _ _ _ ht .i64 _ (by omega) (by omega), elem_u8, size_u8]
  unfold tlA
  by_cases h0 : c = i
  · simp [Result.andThen, sliced, h0]
  · simp [Result.andThen, sliced, h0]

end Go.Proofs.YtkcgbdoplhgbmaaDoor
