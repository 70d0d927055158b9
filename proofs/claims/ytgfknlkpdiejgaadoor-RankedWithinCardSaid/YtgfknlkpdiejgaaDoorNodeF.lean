/- Trees that the program made: each list in a block of its own. No program. -/
import Derived.Test.YtgfknlkpdiejgaaDoorNodeP
import Derived.Test.YtgfknlkpdiejgaaDoorKeeps
namespace Go.Proofs.YtgfknlkpdiejgaaDoor
open Go Go.RowKit

mutual
/-- The tree lies in the blocks fp: its list in the first, the lists below it in the others. -/
def NdFp (W : World) : Nd → Value → List Nat → Prop
  | .mk _ subs, sv, fp => (subs = [] ∧ (∃ A c, sv = .slice A 0 c) ∧ fp = []) ∨ (∃ g c fps, sv = .slice (some ⟨g, 0, none⟩) subs.length c ∧ fp = g :: fps ∧ ((∃ t cur, Blk W g t cur) ∧ subs.length ≤ c) ∧ NdsFp W subs g 0 fps)
def NdsFp (W : World) : List Nd → Nat → Nat → List Nat → Prop
  | [], _, _, fps => fps = []
  | n :: r, g, k, fps => ∃ f1 f2 sv, fps = f1 ++ f2 ∧ (∀ i, i < 10 → W.cell? ⟨g, k * 10 + i, none⟩ = (nodeC n.h sv)[i]?) ∧ NdFp W n sv f1 ∧ NdsFp W r g (k + 1) f2
end
mutual
theorem NdFp.ok {W : World} : ∀ {n : Nd} {sv : Value} {fp : List Nat}, NdFp W n sv fp → NdOk W n sv
  | .mk _ subs, sv, fp, h => by
    unfold NdFp at h
    unfold NdOk
    rcases h with ⟨rfl, ⟨A, c, rfl⟩, _⟩ | ⟨g, c, fps, rfl, _, _, h⟩
    · exact ⟨A, c, rfl, trivial⟩
    · exact ⟨_, c, rfl, NdsFp.ok h⟩
theorem NdsFp.ok {W : World} : ∀ {l : List Nd} {g k : Nat} {fps : List Nat}, NdsFp W l g k fps → NdsOk W l (some ⟨g, 0, none⟩) k
  | [], _, _, _, _ => trivial
  | n :: r, g, k, fps, h => by
    unfold NdsFp at h
    obtain ⟨f1, f2, sv, _, h1, h2, h3⟩ := h
    exact ⟨⟨g, 0, sv, rfl, fun i hi => by rw [Nat.zero_add]; exact h1 i hi, h2.ok⟩, h3.ok⟩
end
/-- Block g is the same in both worlds. -/
def SameAt (W W' : World) (g : Nat) : Prop := W'.heap[g]? = W.heap[g]?
theorem sameAt_of_block {W W' : World} {g : Nat} (h : W'.heap[g]? = W.heap[g]?) : SameAt W W' g := h
theorem SameAt.cell {W W' : World} {g : Nat} (h : SameAt W W' g) (i : Nat) : W'.cell? ⟨g, i, none⟩ = W.cell? ⟨g, i, none⟩ := World.cell?_of_block (a := ⟨g, i, none⟩) h
mutual
theorem NdFp.keep {W W' : World} : ∀ {n : Nd} {sv : Value} {fp : List Nat}, NdFp W n sv fp → (∀ b ∈ fp, SameAt W W' b) → NdFp W' n sv fp
  | .mk _ subs, sv, fp, h, hs => by
    unfold NdFp at h ⊢
    rcases h with h | ⟨g, c, fps, rfl, rfl, ⟨⟨t, cur, hb⟩, hcc⟩, h⟩
    · exact .inl h
    · exact .inr ⟨g, c, fps, rfl, rfl, ⟨⟨t, cur, (hs g (by simp)).trans hb⟩, hcc⟩, h.keep (hs g (by simp)) (fun b hb => hs b (by simp [hb]))⟩
theorem NdsFp.keep {W W' : World} : ∀ {l : List Nd} {g k : Nat} {fps : List Nat}, NdsFp W l g k fps → SameAt W W' g → (∀ b ∈ fps, SameAt W W' b) → NdsFp W' l g k fps
  | [], _, _, _, h, _, _ => h
  | n :: r, g, k, fps, h, hg, hs => by
    unfold NdsFp at h ⊢
    obtain ⟨f1, f2, sv, rfl, h1, h2, h3⟩ := h
    exact ⟨f1, f2, sv, rfl, fun i hi => (hg.cell _).trans (h1 i hi), h2.keep (fun b hb => hs b (by simp [hb])), h3.keep hg (fun b hb => hs b (by simp [hb]))⟩
end
theorem NdFp.ext {W W' : World} {n : Nd} {sv : Value} {fp : List Nat} (h : NdFp W n sv fp) (hx : Ext W W') (hb : ∀ b ∈ fp, b < W.heap.size) : NdFp W' n sv fp := h.keep fun b hm => sameAt_of_block (Below.block hx b (hb b hm))

end Go.Proofs.YtgfknlkpdiejgaaDoor
