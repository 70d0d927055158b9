/- Slices of ints that read as a list, and trawlnum.SameInts as a contract. Slices of at most 10^12 elements. -/
import Derived.Test.YthddlhpndaffjaaDoorProg
import Derived.Test.YthddlhpndaffjaaDoorLib
namespace Go.Proofs.YthddlhpndaffjaaDoor
open Go.RowKit

theorem info_int : (Tryd.prog.info? 3).map (fun i => (i.zero, i.size, i.bytes)) = some (some (.int .i64 0), 1, 8) := by kernel_rfl

def cI (l : List Int) : List Value := l.map (Value.int .i64)
@[simp] theorem cI_len (l : List Int) : (cI l).length = l.length := by simp [cI]
theorem cI_get (l : List Int) (j : Nat) (h : j < l.length) : (cI l)[j]? = some (.int .i64 (l.getD j 0)) := by simp [cI, h]
def i64s (l : List Int) : Array Value := (cI l).toArray
@[simp] theorem i64s_size (l : List Int) : (i64s l).size = l.length := by simp [i64s]
theorem i64s_get (l : List Int) (j : Nat) (h : j < l.length) : (i64s l)[j]? = some (.int .i64 (l.getD j 0)) := by simp [i64s, cI, h]
theorem i64s_set (l : List Int) (j : Nat) (x : Int) : (i64s l).setIfInBounds j (.int .i64 x) = i64s (l.set j x) := by
  apply Array.ext'
  simp [i64s, cI, List.map_set]
theorem made_i64 (n : Nat) : madeCells #[Value.int .i64 0] n = i64s (List.replicate n 0) := by
  apply Array.ext
  · simp [madeCells]
  · intro i h1 h2
    simp [madeCells, i64s, cI, Nat.mod_one]

/-- A slice of ints reads as this list. -/
def RdI (w : World) (v : Value) (l : List Int) : Prop :=
  ∃ A c, v = .slice A l.length c ∧ ∀ j, j < l.length → ∃ g o, A = some ⟨g, o, none⟩ ∧ w.cell? ⟨g, o + j, none⟩ = some (.int .i64 (l.getD j 0))

theorem RdI.ext {w w' : World} {v : Value} {l : List Int} (h : RdI w v l) (hx : Ext w w') : RdI w' v l := by
  obtain ⟨A, c, hv, hc⟩ := h
  exact ⟨A, c, hv, fun j hj => by obtain ⟨g, o, hA, hcell⟩ := hc j hj; exact ⟨g, o, hA, hx.cell hcell⟩⟩
theorem RdI.of_own {w : World} {B : Nat} {e : TypeId} {v : Value} {l : List Int} (h : Own1 w B e v (cI l)) : RdI w v l := by
  rcases Nat.eq_zero_or_pos l.length with h0 | h0
  · rcases h.2 with ⟨rfl, _⟩ | ⟨g, cap, cur, rfl, _⟩
    · exact ⟨none, 0, by rw [h0], fun j hj => by omega⟩
    · exact ⟨some ⟨g, 0, none⟩, cap, by rw [cI_len], fun j hj => by omega⟩
  · obtain ⟨g, cap, rfl, _, _, hc⟩ := h.form (by simpa using h0)
    exact ⟨some ⟨g, 0, none⟩, cap, by rw [cI_len], fun j hj => ⟨g, 0, rfl, by rw [Nat.zero_add]; exact hc j _ (cI_get l j hj)⟩⟩
theorem RdI.of_blk {w : World} {g : Nat} {e : TypeId} {l : List Int} {c : Nat} (h : Blk w g e (i64s l)) : RdI w (.slice (some ⟨g, 0, none⟩) l.length c) l :=
  ⟨_, _, rfl, fun j hj => ⟨g, 0, rfl, by rw [Nat.zero_add, h.cell]; exact i64s_get l j hj⟩⟩

theorem getD_ext (la lb : List Int) (hl : la.length = lb.length) (h : ∀ j, j < la.length → la.getD j 0 = lb.getD j 0) : la = lb := by
  apply List.ext_getElem hl
  intro j h1 h2
  have := h j h1
  rw [List.getD_eq_getElem?_getD, List.getD_eq_getElem?_getD, List.getElem?_eq_getElem h1, List.getElem?_eq_getElem h2] at this
  exact this

end Go.Proofs.YthddlhpndaffjaaDoor
