/- Trees in blocks from some block on, that may share memory; a list of such trees under way. No condition. -/
import Derived.Test.YtkcgbdoplhgbmaaDoorNodeI
namespace Go.Proofs.YtkcgbdoplhgbmaaDoor
open Go Go.RowKit

/-- The tree lies in blocks from B on. -/
def NdB (B : Nat) (W : World) (n : Nd) (sv : Value) : Prop := NdIn W (fun b => B ≤ b ∧ b < W.heap.size) n sv
theorem NdB.ok {B : Nat} {W : World} {n : Nd} {sv : Value} (h : NdB B W n sv) : NdOk W n sv := NdIn.ok h
theorem NdB.keeps {B : Nat} {W W' : World} {F : Nat → Prop} {n : Nd} {sv : Value} (h : NdB B W n sv) (hk : Keeps F W W') (hF : ∀ b, B ≤ b → b < W.heap.size → ¬ F b) : NdB B W' n sv :=
  NdIn.keep (fun b hb => ⟨sameAt_of_block (hk.block b hb.2 (hF b hb.1 hb.2)), hb.1, Nat.lt_of_lt_of_le hb.2 hk.size⟩) h
theorem NdB.ext {B : Nat} {W W' : World} {n : Nd} {sv : Value} (h : NdB B W n sv) (hx : Ext W W') : NdB B W' n sv := h.keeps (F := fun _ => False) (Keeps.of_ext hx) (fun _ _ _ hf => hf)
theorem NdB.mono {B B' : Nat} {W : World} {n : Nd} {sv : Value} (h : NdB B W n sv) (hb : B' ≤ B) : NdB B' W n sv :=
  NdIn.keep (fun _ hx => ⟨rfl, Nat.le_trans hb hx.1, hx.2⟩) h
theorem NdB.keep1 {B : Nat} {w w1 : World} {g : Nat} {n : Nd} {sv : Value} (h : NdB B w n sv) (k : Keeps (· = g) w w1) (hg : g < B) : NdB B w1 n sv := h.keeps k (fun b hb _ e => by omega)
theorem NdB.nil (B : Nat) (W : World) (h : Hd) (A : Option Addr) (c : Nat) : NdB B W (.mk h []) (.slice A 0 c) := ⟨A, c, rfl, trivial⟩
theorem NdB.head {B : Nat} {W : World} {h h' : Hd} {s : List Nd} {sv : Value} (hn : NdB B W (.mk h s) sv) : NdB B W (.mk h' s) sv := hn
theorem NdB.one {B : Nat} {W : World} {n : Nd} {sv : Value} {g : Nat} {t : TypeId} (h : NdB B W n sv) (hg : Blk W g t (nodeA n.h sv)) (hB : B ≤ g) (hd : Hd) (c : Nat) : NdB B W (.mk hd [n]) (.slice (some ⟨g, 0, none⟩) 1 c) :=
  NdIn.one h hg ⟨hB, hg.lt⟩ hd c
/-- What a call that makes such a tree answers. -/
def RetB (w : World) (n : Nd) (r : Ending) (w' : World) : Prop := ∃ sv, r = .returned (nodeV n.h sv) ∧ NdB w.heap.size w' n sv ∧ Ext w w'

/-- A list of trees under way, all in blocks from B on, none in the list's own block. -/
structure LstB (W : World) (B C : Nat) (v : Value) (l : List (Nd × Value)) : Prop where
  own : OwnR W B 27 10 v (l.map fun x => nodeC x.1.h x.2)
  kid : ∀ x ∈ l, NdIn W (fun b => C ≤ b ∧ Off W v b) x.1 x.2
theorem LstB.nil (W : World) (B C : Nat) : LstB W B C (.slice none 0 0) [] := ⟨OwnR.nil _ _ _ _, (fun _ h => by cases h)⟩
theorem LstB.ext {W W' : World} {B C : Nat} {v : Value} {l : List (Nd × Value)} (h : LstB W B C v l) (hx : Ext W W') : LstB W' B C v l :=
  ⟨h.own.ext hx, fun x hm => NdIn.keep (fun b hb => ⟨sameAt_of_block (Below.block hx b hb.2.1), hb.1, Nat.lt_of_lt_of_le hb.2.1 hx.size, hb.2.2⟩) (h.kid x hm)⟩
theorem LstB.keep1 {W W' : World} {B C g : Nat} {v : Value} {l : List (Nd × Value)} (h : LstB W B C v l) (hk : Keeps (· = g) W W') (hgB : g < B) (hg : g < C) : LstB W' B C v l :=
  ⟨h.own.keeps hk (fun i hi e => by have := (h.own.own i hi).1; omega), fun x hm => NdIn.keep (fun b hb => ⟨sameAt_of_block (hk.block b hb.2.1 (fun e => by omega)), hb.1, Nat.lt_of_lt_of_le hb.2.1 hk.size, hb.2.2⟩) (h.kid x hm)⟩
theorem LstB.len {W : World} {B C : Nat} {v : Value} {l : List (Nd × Value)} (h : LstB W B C v l) : ∃ A c, v = .slice A l.length c ∧ l.length ≤ c := by
  have := h.own.shape
  simpa using this
theorem LstB.ownB {W : World} {B C : Nat} {v : Value} {l : List (Nd × Value)} (h : LstB W B C v l) : ∀ i, v.ownBlock = some i → B ≤ i ∧ i < W.heap.size := h.own.own
theorem LstB.in_ {W : World} {B C : Nat} {v : Value} {l : List (Nd × Value)} (h : LstB W B C v l) : LstIn W B v l := ⟨h.own, fun x hm => NdIn.keep (fun _ hb => ⟨rfl, hb.2⟩) (h.kid x hm)⟩
theorem LstB.snoc {W1 W2 : World} {B C : Nat} {v v' : Value} {l : List (Nd × Value)} {n : Nd} {sv : Value} (h : LstB W1 B C v l) (hn : NdIn W1 (fun b => C ≤ b ∧ Off W1 v b) n sv)
    (ho : OwnR W2 B 27 10 v' ((l.map fun x => nodeC x.1.h x.2) ++ [nodeC n.h sv])) (hg : W1.grownBy W2 v.ownBlock) (hat : v'.ownBlock = v.ownBlock ∨ v'.ownBlock = some W1.heap.size) : LstB W2 B C v' (l ++ [(n, sv)]) := by
  have hk : ∀ {m : Nd} {sm : Value}, NdIn W1 (fun b => C ≤ b ∧ Off W1 v b) m sm → NdIn W2 (fun b => C ≤ b ∧ Off W2 v' b) m sm := fun hm => hm.keep fun b hb =>
    ⟨sameAt_of_block (hg.block b hb.2.1 (fun e => hb.2.2 e.symm)), hb.1, Nat.lt_of_lt_of_le hb.2.1 hg.size, fun e => by
      rcases hat with h4 | h4
      · exact hb.2.2 (h4 ▸ e)
      · rw [h4] at e; injection e with e; have := hb.2.1; omega⟩
  refine ⟨by simpa using ho, fun x hm => ?_⟩
  rcases List.mem_append.1 hm with hm | hm
  · exact hk (h.kid x hm)
  · simp only [List.mem_singleton] at hm
    subst hm
    exact hk hn
theorem ndsIn_of {W : World} {S : Nat → Prop} {g o : Nat} (hg : S g) : ∀ (l : List (Nd × Value)) (k : Nat), (∀ j x, l[j]? = some x → ∀ i, i < 10 → W.cell? ⟨g, o + (k + j) * 10 + i, none⟩ = (nodeC x.1.h x.2)[i]?) → (∀ x ∈ l, NdIn W S x.1 x.2) → NdsIn W S (l.map (·.1)) (some ⟨g, o, none⟩) k
  | [], _, _, _ => trivial
  | x :: l, k, hc, hk => ⟨⟨g, o, x.2, hg, rfl, fun i hi => hc 0 x rfl i hi, hk x (by simp)⟩, ndsIn_of hg l (k + 1) (fun j y hj i hi => by
      rw [show k + 1 + j = k + (j + 1) by omega]
      exact hc (j + 1) y (by simpa using hj) i hi) (fun y hy => hk y (by simp [hy]))⟩
theorem LstB.node {W : World} {B C : Nat} {v : Value} {l : List (Nd × Value)} (h : LstB W B C v l) (hCB : C ≤ B) (hd : Hd) : NdB C W (.mk hd (l.map (·.1))) v := by
  rcases h.own.slice with ⟨rfl, h0⟩ | ⟨g, cap, cur, rfl, hg, hb, _⟩
  · have : l = [] := by cases l with
      | nil => rfl
      | cons => simp at h0
    subst this
    exact ⟨none, 0, rfl, trivial⟩
  · refine ⟨some ⟨g, 0, none⟩, cap, by simp, ndsIn_of ⟨Nat.le_trans hCB hg, hb.lt⟩ l 0 (fun j x hj i hi => ?_) (fun x hm => NdIn.keep (fun _ hb => ⟨rfl, hb.1, hb.2.1⟩) (h.kid x hm))⟩
    have := h.own.cell j (nodeC x.1.h x.2) (by simp [hj]) i hi
    simpa using this

section
variable {ops : Array Oper} {rest : List Oper} {o : Oper} {a : Act} {w : World} {Q : Exit → Act → World → Prop}
/-- 'list = append(list, node)' where the call made the list. -/
theorem wpl_appB (hgd : o.guard = none) (s x : Operand) (ho : o.op = .call { callee := .builtin .append, args := #[s, x], argTypes := #[25, 25] })
    (B C : Nat) (v : Value) (l : List (Nd × Value)) (n : Nd) (sv : Value) (g c : Nat) (hs : a.eval s = v) (hx : a.eval x = .slice (some ⟨g, 0, none⟩) 1 c) (hL : LstB w B C v l) (hB : B ≤ w.heap.size) (hn : NdIn w (fun b => C ≤ b ∧ Off w v b) n sv) (hg : Blk w g 27 (nodeA n.h sv)) (hl : l.length ≤ 1000000000)
    (hK : ∀ v' w1, LstB w1 B C v' (l ++ [(n, sv)]) → w.grownBy w1 v.ownBlock → wpList Tryd.prog ops Q rest (a.put o.dst v') w1) : wpList Tryd.prog ops Q (o :: rest) a w := by
  refine wpList_appR hgd s x _ ho B 27 _ 10 96 Tryd.underlying25 info_ndZ rfl (by decide) v _ hs hL.own g c (nodeC n.h sv) rfl hx (fun i _ => by rw [hg.cell, nodeA_get]) (nodeC_one hn.ok.sl) (by simp; omega) (by simp; omega) hB ?_
  intro v' w1 h1 h2 h3
  exact hK v' w1 (hL.snoc hn h1 h2 h3) h2
theorem ext_grown_B {w0 w w1 : World} {B C : Nat} {v : Value} {l : List (Nd × Value)} (h : Ext w0 w) (hL : LstB w B C v l) (hB : w0.heap.size ≤ B) (hg : w.grownBy w1 v.ownBlock) : Ext w0 w1 :=
  h.grown hg fun k hk => by have := (hL.ownB k hk).1; omega
/-- A tree older than the list. -/
theorem NdB.far {C : Nat} {W0 W : World} {n : Nd} {sv v : Value} (h : NdB C W0 n sv) (hx : Ext W0 W) (hv : ∀ i, v.ownBlock = some i → W0.heap.size ≤ i) : NdIn W (fun b => C ≤ b ∧ Off W v b) n sv :=
  NdIn.keep (fun b hb => ⟨sameAt_of_block (Below.block hx b hb.2), hb.1, Nat.lt_of_lt_of_le hb.2 hx.size, fun e => by have := hv b e; omega⟩) h
/-- A tree younger than the list. -/
theorem NdB.near {C D : Nat} {W : World} {n : Nd} {sv v : Value} (h : NdB D W n sv) (hCD : C ≤ D) (hv : ∀ i, v.ownBlock = some i → i < D) : NdIn W (fun b => C ≤ b ∧ Off W v b) n sv :=
  NdIn.keep (fun b hb => ⟨rfl, Nat.le_trans hCD hb.1, hb.2, fun e => by have := hv b e; omega⟩) h
theorem ndIn_ext {C : Nat} {W W' : World} {n : Nd} {sv v : Value} (h : NdIn W (fun b => C ≤ b ∧ Off W v b) n sv) (hx : Ext W W') : NdIn W' (fun b => C ≤ b ∧ Off W' v b) n sv :=
  NdIn.keep (fun b hb => ⟨sameAt_of_block (Below.block hx b hb.2.1), hb.1, Nat.lt_of_lt_of_le hb.2.1 hx.size, hb.2.2⟩) h
end
theorem grown_keep1 {w w1 : World} {g : Nat} {row : Option Nat} {t : TypeId} {cs : Array Value} (h : Blk w g t cs) (hg : w.grownBy w1 row) (hne : row ≠ some g) : Blk w1 g t cs := h.keeps (Keeps.of_grown hg) hne

end Go.Proofs.YtkcgbdoplhgbmaaDoor
