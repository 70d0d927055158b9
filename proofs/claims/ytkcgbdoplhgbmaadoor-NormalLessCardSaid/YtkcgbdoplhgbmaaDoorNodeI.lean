/- Trees that may share memory, and a list of such trees under way. No condition. -/
import Derived.Test.YtkcgbdoplhgbmaaDoorNodeW
namespace Go.Proofs.YtkcgbdoplhgbmaaDoor
open Go Go.RowKit

mutual
/-- The tree lies in memory, its lists in blocks of S. -/
def NdIn (W : World) (S : Nat → Prop) : Nd → Value → Prop
  | .mk _ subs, sv => ∃ A c, sv = .slice A subs.length c ∧ NdsIn W S subs A 0
def NdsIn (W : World) (S : Nat → Prop) : List Nd → Option Addr → Nat → Prop
  | [], _, _ => True
  | n :: r, A, k => (∃ g o sv, S g ∧ A = some ⟨g, o, none⟩ ∧ (∀ i, i < 10 → W.cell? ⟨g, o + k * 10 + i, none⟩ = (nodeC n.h sv)[i]?) ∧ NdIn W S n sv) ∧ NdsIn W S r A (k + 1)
end
mutual
theorem NdIn.ok {W : World} {S : Nat → Prop} : ∀ {n : Nd} {sv : Value}, NdIn W S n sv → NdOk W n sv
  | .mk _ _, _, ⟨A, c, h1, h2⟩ => ⟨A, c, h1, NdsIn.ok h2⟩
theorem NdsIn.ok {W : World} {S : Nat → Prop} : ∀ {l : List Nd} {A : Option Addr} {k : Nat}, NdsIn W S l A k → NdsOk W l A k
  | [], _, _, _ => trivial
  | _ :: _, _, _, ⟨⟨g, o, sv, _, h1, h2, h3⟩, h4⟩ => ⟨⟨g, o, sv, h1, h2, h3.ok⟩, h4.ok⟩
end
mutual
theorem NdOk.in {W : World} : ∀ {n : Nd} {sv : Value}, NdOk W n sv → NdIn W (· < W.heap.size) n sv
  | .mk _ _, _, ⟨A, c, h1, h2⟩ => ⟨A, c, h1, NdsOk.in h2⟩
theorem NdsOk.in {W : World} : ∀ {l : List Nd} {A : Option Addr} {k : Nat}, NdsOk W l A k → NdsIn W (· < W.heap.size) l A k
  | [], _, _, _ => trivial
  | _ :: _, _, k, ⟨⟨g, o, sv, h1, h2, h3⟩, h4⟩ => ⟨⟨g, o, sv, World.block_lt_of_cell? W ⟨g, o + k * 10 + 0, none⟩ (h2 0 (by omega)), h1, h2, h3.in⟩, h4.in⟩
end
mutual
theorem NdIn.keep {W W' : World} {S S' : Nat → Prop} (hs : ∀ b, S b → SameAt W W' b ∧ S' b) : ∀ {n : Nd} {sv : Value}, NdIn W S n sv → NdIn W' S' n sv
  | .mk _ _, _, ⟨A, c, h1, h2⟩ => ⟨A, c, h1, NdsIn.keep hs h2⟩
theorem NdsIn.keep {W W' : World} {S S' : Nat → Prop} (hs : ∀ b, S b → SameAt W W' b ∧ S' b) : ∀ {l : List Nd} {A : Option Addr} {k : Nat}, NdsIn W S l A k → NdsIn W' S' l A k
  | [], _, _, _ => trivial
  | _ :: _, _, _, ⟨⟨g, o, sv, h0, h1, h2, h3⟩, h4⟩ => ⟨⟨g, o, sv, (hs g h0).2, h1, fun i hi => ((hs g h0).1.cell _).trans (h2 i hi), h3.keep hs⟩, h4.keep hs⟩
end
theorem NdIn.one {W : World} {S : Nat → Prop} {n : Nd} {sv : Value} {g : Nat} {t : TypeId} (h : NdIn W S n sv) (hg : Blk W g t (nodeA n.h sv)) (hs : S g) (hd : Hd) (c : Nat) : NdIn W S (.mk hd [n]) (.slice (some ⟨g, 0, none⟩) 1 c) :=
  ⟨_, c, rfl, ⟨g, 0, sv, hs, rfl, fun i _ => by simp only [Nat.zero_mul, Nat.zero_add]; rw [hg.cell, nodeA_get], h⟩, trivial⟩
/-- Blocks that are there, and not the list's own. -/
def Off (W : World) (v : Value) (b : Nat) : Prop := b < W.heap.size ∧ v.ownBlock ≠ some b
theorem NdOk.far {W0 W : World} {n : Nd} {sv v : Value} (h : NdOk W0 n sv) (hx : Ext W0 W) (hv : ∀ i, v.ownBlock = some i → W0.heap.size ≤ i) : NdIn W (Off W v) n sv :=
  h.in.keep fun b hb => ⟨sameAt_of_block (Below.block hx b hb), Nat.lt_of_lt_of_le hb hx.size, fun e => by have := hv b e; omega⟩
theorem NdIn.off {W W' : World} {n : Nd} {sv v : Value} (h : NdIn W (Off W v) n sv) (hx : Ext W W') : NdIn W' (Off W' v) n sv :=
  h.keep fun b hb => ⟨sameAt_of_block (Below.block hx b hb.1), Nat.lt_of_lt_of_le hb.1 hx.size, hb.2⟩

/-- A list of trees under way: the trees may share memory, but none lies in the list's own block. -/
structure LstIn (W : World) (B : Nat) (v : Value) (l : List (Nd × Value)) : Prop where
  own : OwnR W B 27 10 v (l.map fun x => nodeC x.1.h x.2)
  kid : ∀ x ∈ l, NdIn W (Off W v) x.1 x.2
theorem LstIn.nil (W : World) (B : Nat) : LstIn W B (.slice none 0 0) [] := ⟨OwnR.nil _ _ _ _, (fun _ h => by cases h)⟩
theorem LstIn.ext {W W' : World} {B : Nat} {v : Value} {l : List (Nd × Value)} (h : LstIn W B v l) (hx : Ext W W') : LstIn W' B v l := ⟨h.own.ext hx, fun x hm => (h.kid x hm).off hx⟩
theorem LstIn.len {W : World} {B : Nat} {v : Value} {l : List (Nd × Value)} (h : LstIn W B v l) : ∃ A c, v = .slice A l.length c ∧ l.length ≤ c := by
  have := h.own.shape
  simpa using this
theorem LstIn.ownB {W : World} {B : Nat} {v : Value} {l : List (Nd × Value)} (h : LstIn W B v l) : ∀ i, v.ownBlock = some i → B ≤ i ∧ i < W.heap.size := h.own.own
theorem LstIn.snoc {W1 W2 : World} {B : Nat} {v v' : Value} {l : List (Nd × Value)} {n : Nd} {sv : Value} (h : LstIn W1 B v l) (hn : NdIn W1 (Off W1 v) n sv)
    (ho : OwnR W2 B 27 10 v' ((l.map fun x => nodeC x.1.h x.2) ++ [nodeC n.h sv])) (hg : W1.grownBy W2 v.ownBlock) (hat : v'.ownBlock = v.ownBlock ∨ v'.ownBlock = some W1.heap.size) : LstIn W2 B v' (l ++ [(n, sv)]) := by
  have hk : ∀ {m : Nd} {sm : Value}, NdIn W1 (Off W1 v) m sm → NdIn W2 (Off W2 v') m sm := fun hm => hm.keep fun b hb =>
    ⟨sameAt_of_block (hg.block b hb.1 (fun e => hb.2 e.symm)), Nat.lt_of_lt_of_le hb.1 hg.size, fun e => by
      rcases hat with h4 | h4
      · exact hb.2 (h4 ▸ e)
      · rw [h4] at e; injection e with e; have := hb.1; omega⟩
  refine ⟨by simpa using ho, fun x hm => ?_⟩
  rcases List.mem_append.1 hm with hm | hm
  · exact hk (h.kid x hm)
  · simp only [List.mem_singleton] at hm
    subst hm
    exact hk hn
theorem ndsOk_of {W : World} {g o : Nat} : ∀ (l : List (Nd × Value)) (k : Nat), (∀ j x, l[j]? = some x → ∀ i, i < 10 → W.cell? ⟨g, o + (k + j) * 10 + i, none⟩ = (nodeC x.1.h x.2)[i]?) → (∀ x ∈ l, NdOk W x.1 x.2) → NdsOk W (l.map (·.1)) (some ⟨g, o, none⟩) k
  | [], _, _, _ => trivial
  | x :: l, k, hc, hk => ⟨⟨g, o, x.2, rfl, fun i hi => hc 0 x rfl i hi, hk x (by simp)⟩, ndsOk_of l (k + 1) (fun j y hj i hi => by
      rw [show k + 1 + j = k + (j + 1) by omega]
      exact hc (j + 1) y (by simpa using hj) i hi) (fun y hy => hk y (by simp [hy]))⟩
theorem LstIn.nds {W : World} {B : Nat} {v : Value} {l : List (Nd × Value)} (h : LstIn W B v l) (hd : Hd) : NdOk W (.mk hd (l.map (·.1))) v := by
  rcases h.own.slice with ⟨rfl, h0⟩ | ⟨g, cap, cur, rfl, _⟩
  · have : l = [] := by cases l with
      | nil => rfl
      | cons => simp at h0
    subst this
    exact ⟨none, 0, rfl, trivial⟩
  · refine ⟨some ⟨g, 0, none⟩, cap, by simp, ndsOk_of l 0 (fun j x hj i hi => ?_) (fun x hm => (h.kid x hm).ok)⟩
    have := h.own.cell j (nodeC x.1.h x.2) (by simp [hj]) i hi
    simpa using this

section
variable {ops : Array Oper} {rest : List Oper} {o : Oper} {a : Act} {w : World} {Q : Exit → Act → World → Prop}
/-- 'list = append(list, node)' where the call made the list. -/
theorem wpl_appIn (hgd : o.guard = none) (s x : Operand) (ho : o.op = .call { callee := .builtin .append, args := #[s, x], argTypes := #[25, 25] })
    (B : Nat) (v : Value) (l : List (Nd × Value)) (n : Nd) (sv : Value) (g c : Nat) (hs : a.eval s = v) (hx : a.eval x = .slice (some ⟨g, 0, none⟩) 1 c) (hL : LstIn w B v l) (hB : B ≤ w.heap.size) (hn : NdIn w (Off w v) n sv) (hg : Blk w g 27 (nodeA n.h sv)) (hl : l.length ≤ 1000000000)
    (hK : ∀ v' w1, LstIn w1 B v' (l ++ [(n, sv)]) → (∀ w0, Ext w0 w → w0.heap.size ≤ B → Ext w0 w1) → wpList Tryd.prog ops Q rest (a.put o.dst v') w1) : wpList Tryd.prog ops Q (o :: rest) a w := by
  refine wpList_appR hgd s x _ ho B 27 _ 10 96 Tryd.underlying25 info_ndZ rfl (by decide) v _ hs hL.own g c (nodeC n.h sv) rfl hx (fun i _ => by rw [hg.cell, nodeA_get]) (nodeC_one hn.ok.sl) (by simp; omega) (by simp; omega) hB ?_
  intro v' w1 h1 h2 h3
  exact hK v' w1 (hL.snoc hn h1 h2 h3) (fun w0 hx0 hb => hx0.grown h2 (fun k hk => by have := (hL.ownB k hk).1; omega))
end

end Go.Proofs.YtkcgbdoplhgbmaaDoor
