/- Trees of the program's nodes, in plain words; how a tree lies in memory. No program. -/
import Derived.Test.YtgfknlkpdiejgaaGreatDoorLib
import Derived.Test.YtgfknlkpdiejgaaGreatDoorBits
namespace Go.Proofs.YtgfknlkpdiejgaaGreatDoor
open Go Go.RowKit

structure Hd where
  kind : Int
  set : Nat → Bool
  num : Int
  min : Int
  max : Int
  bare : Bool
inductive Nd where
  | mk (h : Hd) (subs : List Nd)
def Nd.h : Nd → Hd | .mk h _ => h
def Nd.subs : Nd → List Nd | .mk _ s => s
/-- A node's cells; sv: its list. -/
def nodeC (h : Hd) (sv : Value) : List Value := [.int .i64 h.kind, .int .u64 (wd h.set 0 : Int), .int .u64 (wd h.set 1 : Int), .int .u64 (wd h.set 2 : Int), .int .u64 (wd h.set 3 : Int), sv, .int .i64 h.num, .int .i64 h.min, .int .i64 h.max, .bool h.bare]
mutual
def NdOk (W : World) : Nd → Value → Prop
  | .mk _ subs, sv => ∃ A c, sv = .slice A subs.length c ∧ NdsOk W subs A 0
def NdsOk (W : World) : List Nd → Option Addr → Nat → Prop
  | [], _, _ => True
  | n :: r, A, k => (∃ g o sv, A = some ⟨g, o, none⟩ ∧ (∀ i, i < 10 → W.cell? ⟨g, o + k * 10 + i, none⟩ = (nodeC n.h sv)[i]?) ∧ NdOk W n sv) ∧ NdsOk W r A (k + 1)
end
mutual
theorem NdOk.ext {W W' : World} (hx : Ext W W') : ∀ (n : Nd) (sv : Value), NdOk W n sv → NdOk W' n sv
  | .mk _ subs, _ => fun ⟨A, c, h1, h2⟩ => ⟨A, c, h1, NdsOk.ext hx subs A 0 h2⟩
theorem NdsOk.ext {W W' : World} (hx : Ext W W') : ∀ (l : List Nd) (A : Option Addr) (k : Nat), NdsOk W l A k → NdsOk W' l A k
  | [], _, _ => fun _ => trivial
  | n :: r, A, k => fun ⟨⟨g, o, sv, h1, h2, h3⟩, h4⟩ => ⟨⟨g, o, sv, h1, fun i hi => (by
      have e := h2 i hi
      have hs : (nodeC n.h sv)[i]? = some (nodeC n.h sv)[i] := List.getElem?_eq_getElem (by simpa [nodeC] using hi)
      rw [hs] at e ⊢
      exact hx.cell e), NdOk.ext hx n sv h3⟩, NdsOk.ext hx r A (k + 1) h4⟩
end
theorem NdsOk.get {W : World} : ∀ {l : List Nd} {A : Option Addr} {k : Nat}, NdsOk W l A k → ∀ j (hj : j < l.length), ∃ g o sv, A = some ⟨g, o, none⟩ ∧ (∀ i, i < 10 → W.cell? ⟨g, o + (k + j) * 10 + i, none⟩ = (nodeC (l[j]).h sv)[i]?) ∧ NdOk W l[j] sv
  | [], _, _, _, j, hj => absurd hj (Nat.not_lt_zero _)
  | _ :: _, _, _, ⟨h1, _⟩, 0, _ => h1
  | _ :: r, A, k, ⟨_, h2⟩, j + 1, hj => by
    obtain ⟨g, o, sv, h3, h4, h5⟩ := NdsOk.get h2 j (by simpa using hj)
    refine ⟨g, o, sv, h3, fun i hi => ?_, h5⟩
    rw [show k + (j + 1) = k + 1 + j by omega]
    exact h4 i hi
theorem NdsOk.of {W : World} {A : Option Addr} : ∀ {l : List Nd} {k : Nat}, (∀ j (hj : j < l.length), ∃ g o sv, A = some ⟨g, o, none⟩ ∧ (∀ i, i < 10 → W.cell? ⟨g, o + (k + j) * 10 + i, none⟩ = (nodeC (l[j]).h sv)[i]?) ∧ NdOk W l[j] sv) → NdsOk W l A k
  | [], _, _ => trivial
  | n :: r, k, h => ⟨h 0 (by simp), NdsOk.of (k := k + 1) fun j hj => by
    obtain ⟨g, o, sv, h3, h4, h5⟩ := h (j + 1) (by simpa using hj)
    refine ⟨g, o, sv, h3, fun i hi => ?_, h5⟩
    rw [show k + 1 + j = k + (j + 1) by omega]
    exact h4 i hi⟩

end Go.Proofs.YtgfknlkpdiejgaaGreatDoor
