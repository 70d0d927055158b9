/- Slices of strings in memory, pieces of a string; trawlref28.parts. Condition: the length of the text. -/
import Derived.Test.YtkcgbdoplhgbmaaDoorOMst
namespace Go.Proofs.YtkcgbdoplhgbmaaDoor
open Go Go.RowKit

theorem info_str : (Tryd.prog.info? 9).map (fun i => (i.zero, i.size, i.bytes)) = some (some (.string ⟨#[]⟩), 1, 16) := by kernel_rfl

/-- A slice of strings reads as a list. -/
def RdT (w : World) (v : Value) (l : List ByteArray) : Prop :=
  ∃ A c, v = .slice A l.length c ∧ l.length ≤ c ∧ ∀ j, j < l.length → ∃ g o, A = some ⟨g, o, none⟩ ∧ w.cell? ⟨g, o + j, none⟩ = some (.string (l.getD j ⟨#[]⟩))
theorem RdT.ext {w w' : World} {v : Value} {l : List ByteArray} (h : RdT w v l) (hx : Ext w w') : RdT w' v l := by
  obtain ⟨A, c, hv, hlc, hc⟩ := h
  exact ⟨A, c, hv, hlc, fun j hj => by obtain ⟨g, o, hA, hcell⟩ := hc j hj; exact ⟨g, o, hA, hx.cell hcell⟩⟩
theorem RdT.of_own {w : World} {B : Nat} {e : TypeId} {v : Value} {l : List ByteArray} (h : Own1 w B e v (l.map Value.string)) : RdT w v l := by
  rcases h.slice with ⟨rfl, h0⟩ | ⟨g, cap, cur, rfl, _, _, hlc, _⟩
  · have : l = [] := by simpa using h0
    subst this
    exact ⟨none, 0, rfl, Nat.le_refl _, fun j hj => absurd hj (Nat.not_lt_zero j)⟩
  · refine ⟨some ⟨g, 0, none⟩, cap, by rw [List.length_map], by simpa using hlc, fun j hj => ⟨g, 0, rfl, ?_⟩⟩
    rw [Nat.zero_add]
    refine h.cells.2 j _ ?_
    rw [List.getElem?_map, List.getD_eq_getElem?_getD, List.getElem?_eq_getElem hj]
    rfl
theorem byB_extract (s : ByteArray) (f k : Nat) : byB (s.extract f k) = ((byB s).drop f).take (k - f) := by
  unfold byB
  rw [Lib.extract_data]
theorem byB_inj {a b : ByteArray} (h : byB a = byB b) : a = b := by
  unfold byB at h
  cases a with
  | mk a => cases b with
    | mk b => simp only [ByteArray.mk.injEq]; exact Array.toList_inj.1 h

theorem drop_get (s : ByteArray) (k : Nat) (h : k < s.size) : s.data.toList.drop k = s[k] :: s.data.toList.drop (k + 1) := by
  have h' : k < s.data.toList.length := by simpa using h
  rw [List.drop_eq_getElem_cons h']
  rfl
theorem piece_snoc (s : ByteArray) (f k : Nat) (hf : f ≤ k) (h : k < s.size) : ((byB s).drop f).take (k + 1 - f) = ((byB s).drop f).take (k - f) ++ [s[k]] := by
  unfold byB
  have h' : k < s.data.toList.length := by simpa using h
  have e : k + 1 - f = (k - f) + 1 := by omega
  have h2 : k - f < (s.data.toList.drop f).length := by rw [List.length_drop]; omega
  rw [e, List.take_succ_eq_append_getElem h2, List.getElem_drop]
  congr 2
  have : f + (k - f) = k := by omega
  simp only [this]
  rfl


/-- A piece ahead of the first of some pieces. -/
def glueP (p : List UInt8) : List (List UInt8) → List (List UInt8)
  | [] => [p]
  | q :: r => (p ++ q) :: r
theorem partsP_cons (b : UInt8) (r : List UInt8) : partsP (b :: r) = if b = 10 then [] :: partsP r else glueP [b] (partsP r) := by
  rw [partsP]
  split
  · rfl
  · cases partsP r <;> rfl
theorem partsP_ne : ∀ l : List UInt8, partsP l ≠ []
  | [] => by simp [partsP]
  | b :: r => by
    rw [partsP_cons]
    split
    · simp
    · cases partsP r <;> simp [glueP]
theorem glueP_glue (p q : List UInt8) (l : List (List UInt8)) : glueP p (glueP q l) = glueP (p ++ q) l := by
  cases l <;> simp [glueP]
theorem glueP_nil {l : List (List UInt8)} (h : l ≠ []) : glueP [] l = l := by
  cases l with
  | nil => exact absurd rfl h
  | cons a r => rfl
theorem partsP_len : ∀ l : List UInt8, (partsP l).length ≤ l.length + 1
  | [] => by simp [partsP]
  | b :: r => by
    have := partsP_len r
    rw [partsP_cons]
    split
    · simp only [List.length_cons]; omega
    · cases h : partsP r with
      | nil => simp [glueP]
      | cons a t => rw [h] at this; simp only [glueP, List.length_cons] at *; omega

end Go.Proofs.YtkcgbdoplhgbmaaDoor
