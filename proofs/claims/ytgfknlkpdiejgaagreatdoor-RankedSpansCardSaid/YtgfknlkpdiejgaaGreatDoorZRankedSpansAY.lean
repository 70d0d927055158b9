/- Trees that may share memory, and a list of such trees under way. No condition. Trees in blocks from some block on, that may share memory; a list of such trees under way. No condition. A region that draws its order and in whose midst an operation writes: what that one waits for is taken first; the others after it come one behind the other. No condition. trawlref16.Turn as a contract: the turned tree, in new memory. Condition: the tree lies in memory. -/
import Derived.Test.YtgfknlkpdiejgaaGreatDoorZRankedSpansAC
import Derived.Test.YtgfknlkpdiejgaaGreatDoorZRankedSpansAO
import Derived.OrdersHeld
import Derived.Test.YtgfknlkpdiejgaaGreatDoorZRankedSpansAW
import Derived.Test.YtgfknlkpdiejgaaGreatDoorZRankedSpansAU
import Derived.Test.YtgfknlkpdiejgaaGreatDoorZRankedSpansAP
namespace Go.Proofs.YtgfknlkpdiejgaaGreatDoor
open Go Go.RowKit

mutual
/-- The tree lies in memory, its lists in blocks of S. -/
def NdIn (W : World) (S : Nat → Prop) : Nd → Value → Prop
  | .mk _ subs, sv => ∃ A c, sv = .slice A subs.length c ∧ NdsIn W S subs A 0
def NdsIn (W : World) (S : Nat → Prop) : List Nd → Option Addr → Nat → Prop
  | [], _, _ => True
  | n :: r, A, k => (∃ g o sv, S g ∧ A = some ⟨g, o, none⟩ ∧ (∀ i, i < 10 → W.cell? ⟨g, o + k * 10 + i, none⟩ = (nodeC n.h sv)[i]?) ∧ NdIn W S n sv) ∧ NdsIn W S r A (k + 1)
end
mutual
theorem NdIn.ok {W : World} {S : Nat → Prop} : ∀ {n : Nd} {sv : Value}, NdIn W S n sv → NdOk W n sv
  | .mk _ _, _, ⟨A, c, h1, h2⟩ => ⟨A, c, h1, NdsIn.ok h2⟩
theorem NdsIn.ok {W : World} {S : Nat → Prop} : ∀ {l : List Nd} {A : Option Addr} {k : Nat}, NdsIn W S l A k → NdsOk W l A k
  | [], _, _, _ => trivial
  | _ :: _, _, _, ⟨⟨g, o, sv, _, h1, h2, h3⟩, h4⟩ => ⟨⟨g, o, sv, h1, h2, h3.ok⟩, h4.ok⟩
end
mutual
theorem NdOk.in {W : World} : ∀ {n : Nd} {sv : Value}, NdOk W n sv → NdIn W (· < W.heap.size) n sv
  | .mk _ _, _, ⟨A, c, h1, h2⟩ => ⟨A, c, h1, NdsOk.in h2⟩
theorem NdsOk.in {W : World} : ∀ {l : List Nd} {A : Option Addr} {k : Nat}, NdsOk W l A k → NdsIn W (· < W.heap.size) l A k
  | [], _, _, _ => trivial
  | _ :: _, _, k, ⟨⟨g, o, sv, h1, h2, h3⟩, h4⟩ => ⟨⟨g, o, sv, World.block_lt_of_cell? W ⟨g, o + k * 10 + 0, none⟩ (h2 0 (by omega)), h1, h2, h3.in⟩, h4.in⟩
end
mutual
theorem NdIn.keep {W W' : World} {S S' : Nat → Prop} (hs : ∀ b, S b → SameAt W W' b ∧ S' b) : ∀ {n : Nd} {sv : Value}, NdIn W S n sv → NdIn W' S' n sv
  | .mk _ _, _, ⟨A, c, h1, h2⟩ => ⟨A, c, h1, NdsIn.keep hs h2⟩
theorem NdsIn.keep {W W' : World} {S S' : Nat → Prop} (hs : ∀ b, S b → SameAt W W' b ∧ S' b) : ∀ {l : List Nd} {A : Option Addr} {k : Nat}, NdsIn W S l A k → NdsIn W' S' l A k
  | [], _, _, _ => trivial
  | _ :: _, _, _, ⟨⟨g, o, sv, h0, h1, h2, h3⟩, h4⟩ => ⟨⟨g, o, sv, (hs g h0).2, h1, fun i hi => ((hs g h0).1.cell _).trans (h2 i hi), h3.keep hs⟩, h4.keep hs⟩
end
theorem NdIn.one {W : World} {S : Nat → Prop} {n : Nd} {sv : Value} {g : Nat} {t : TypeId} (h : NdIn W S n sv) (hg : Blk W g t (nodeA n.h sv)) (hs : S g) (hd : Hd) (c : Nat) : NdIn W S (.mk hd [n]) (.slice (some ⟨g, 0, none⟩) 1 c) :=
  ⟨_, c, rfl, ⟨g, 0, sv, hs, rfl, fun i _ => by simp only [Nat.zero_mul, Nat.zero_add]; rw [hg.cell, nodeA_get], h⟩, trivial⟩
/-- Blocks that are there, and not the list's own. -/
def Off (W : World) (v : Value) (b : Nat) : Prop := b < W.heap.size ∧ v.ownBlock ≠ some b
theorem NdOk.far {W0 W : World} {n : Nd} {sv v : Value} (h : NdOk W0 n sv) (hx : Ext W0 W) (hv : ∀ i, v.ownBlock = some i → W0.heap.size ≤ i) : NdIn W (Off W v) n sv :=
  h.in.keep fun b hb => ⟨sameAt_of_block (Below.block hx b hb), Nat.lt_of_lt_of_le hb hx.size, fun e => by have := hv b e; omega⟩
theorem NdIn.off {W W' : World} {n : Nd} {sv v : Value} (h : NdIn W (Off W v) n sv) (hx : Ext W W') : NdIn W' (Off W' v) n sv :=
  h.keep fun b hb => ⟨sameAt_of_block (Below.block hx b hb.1), Nat.lt_of_lt_of_le hb.1 hx.size, hb.2⟩

/-- A list of trees under way: the trees may share memory, but none lies in the list's own block. -/
structure LstIn (W : World) (B : Nat) (v : Value) (l : List (Nd × Value)) : Prop where
  own : OwnR W B 27 10 v (l.map fun x => nodeC x.1.h x.2)
  kid : ∀ x ∈ l, NdIn W (Off W v) x.1 x.2
theorem LstIn.nil (W : World) (B : Nat) : LstIn W B (.slice none 0 0) [] := ⟨OwnR.nil _ _ _ _, (fun _ h => by cases h)⟩
theorem LstIn.ext {W W' : World} {B : Nat} {v : Value} {l : List (Nd × Value)} (h : LstIn W B v l) (hx : Ext W W') : LstIn W' B v l := ⟨h.own.ext hx, fun x hm => (h.kid x hm).off hx⟩
theorem LstIn.len {W : World} {B : Nat} {v : Value} {l : List (Nd × Value)} (h : LstIn W B v l) : ∃ A c, v = .slice A l.length c ∧ l.length ≤ c := by
  have := h.own.shape
  simpa using this
theorem LstIn.ownB {W : World} {B : Nat} {v : Value} {l : List (Nd × Value)} (h : LstIn W B v l) : ∀ i, v.ownBlock = some i → B ≤ i ∧ i < W.heap.size := h.own.own
theorem LstIn.snoc {W1 W2 : World} {B : Nat} {v v' : Value} {l : List (Nd × Value)} {n : Nd} {sv : Value} (h : LstIn W1 B v l) (hn : NdIn W1 (Off W1 v) n sv)
    (ho : OwnR W2 B 27 10 v' ((l.map fun x => nodeC x.1.h x.2) ++ [nodeC n.h sv])) (hg : W1.grownBy W2 v.ownBlock) (hat : v'.ownBlock = v.ownBlock ∨ v'.ownBlock = some W1.heap.size) : LstIn W2 B v' (l ++ [(n, sv)]) := by
  have hk : ∀ {m : Nd} {sm : Value}, NdIn W1 (Off W1 v) m sm → NdIn W2 (Off W2 v') m sm := fun hm => hm.keep fun b hb =>
    ⟨sameAt_of_block (hg.block b hb.1 (fun e => hb.2 e.symm)), Nat.lt_of_lt_of_le hb.1 hg.size, fun e => by
      rcases hat with h4 | h4
      · exact hb.2 (h4 ▸ e)
      · rw [h4] at e; injection e with e; have := hb.1; omega⟩
  refine ⟨by simpa using ho, fun x hm => ?_⟩
  rcases List.mem_append.1 hm with hm | hm
  · exact hk (h.kid x hm)
  · simp only [List.mem_singleton] at hm
    subst hm
    exact hk hn
theorem ndsOk_of {W : World} {g o : Nat} : ∀ (l : List (Nd × Value)) (k : Nat), (∀ j x, l[j]? = some x → ∀ i, i < 10 → W.cell? ⟨g, o + (k + j) * 10 + i, none⟩ = (nodeC x.1.h x.2)[i]?) → (∀ x ∈ l, NdOk W x.1 x.2) → NdsOk W (l.map (·.1)) (some ⟨g, o, none⟩) k
  | [], _, _, _ => trivial
  | x :: l, k, hc, hk => ⟨⟨g, o, x.2, rfl, fun i hi => hc 0 x rfl i hi, hk x (by simp)⟩, ndsOk_of l (k + 1) (fun j y hj i hi => by
      rw [show k + 1 + j = k + (j + 1) by omega]
      exact hc (j + 1) y (by simpa using hj) i hi) (fun y hy => hk y (by simp [hy]))⟩
theorem LstIn.nds {W : World} {B : Nat} {v : Value} {l : List (Nd × Value)} (h : LstIn W B v l) (hd : Hd) : NdOk W (.mk hd (l.map (·.1))) v := by
  rcases h.own.slice with ⟨rfl, h0⟩ | ⟨g, cap, cur, rfl, _⟩
  · have : l = [] := by cases l with
      | nil => rfl
      | cons => simp at h0
    subst this
    exact ⟨none, 0, rfl, trivial⟩
  · refine ⟨some ⟨g, 0, none⟩, cap, by simp, ndsOk_of l 0 (fun j x hj i hi => ?_) (fun x hm => (h.kid x hm).ok)⟩
    have := h.own.cell j (nodeC x.1.h x.2) (by simp [hj]) i hi
    simpa using this

section
variable {ops : Array Oper} {rest : List Oper} {o : Oper} {a : Act} {w : World} {Q : Exit → Act → World → Prop}
/-- 'list = append(list, node)' where the call made the list. -/
theorem wpl_appIn (hgd : o.guard = none) (s x : Operand) (ho : o.op = .call { callee := .builtin .append, args := #[s, x], argTypes := #[25, 25] })
    (B : Nat) (v : Value) (l : List (Nd × Value)) (n : Nd) (sv : Value) (g c : Nat) (hs : a.eval s = v) (hx : a.eval x = .slice (some ⟨g, 0, none⟩) 1 c) (hL : LstIn w B v l) (hB : B ≤ w.heap.size) (hn : NdIn w (Off w v) n sv) (hg : Blk w g 27 (nodeA n.h sv)) (hl : l.length ≤ 1000000000)
    (hK : ∀ v' w1, LstIn w1 B v' (l ++ [(n, sv)]) → (∀ w0, Ext w0 w → w0.heap.size ≤ B → Ext w0 w1) → wpList Tryz.prog ops Q rest (a.put o.dst v') w1) : wpList Tryz.prog ops Q (o :: rest) a w := by
  refine wpList_appR hgd s x _ ho B 27 _ 10 96 Tryz.underlying25 info_ndZ rfl (by decide) v _ hs hL.own g c (nodeC n.h sv) rfl hx (fun i _ => by rw [hg.cell, nodeA_get]) (nodeC_one hn.ok.sl) (by simp; omega) (by simp; omega) hB ?_
  intro v' w1 h1 h2 h3
  exact hK v' w1 (hL.snoc hn h1 h2 h3) (fun w0 hx0 hb => hx0.grown h2 (fun k hk => by have := (hL.ownB k hk).1; omega))
end

end Go.Proofs.YtgfknlkpdiejgaaGreatDoor

namespace Go.Proofs.YtgfknlkpdiejgaaGreatDoor
open Go Go.RowKit

/-- The tree lies in blocks from B on. -/
def NdB (B : Nat) (W : World) (n : Nd) (sv : Value) : Prop := NdIn W (fun b => B ≤ b ∧ b < W.heap.size) n sv
theorem NdB.ok {B : Nat} {W : World} {n : Nd} {sv : Value} (h : NdB B W n sv) : NdOk W n sv := NdIn.ok h
theorem NdB.keeps {B : Nat} {W W' : World} {F : Nat → Prop} {n : Nd} {sv : Value} (h : NdB B W n sv) (hk : Keeps F W W') (hF : ∀ b, B ≤ b → b < W.heap.size → ¬ F b) : NdB B W' n sv :=
  NdIn.keep (fun b hb => ⟨sameAt_of_block (hk.block b hb.2 (hF b hb.1 hb.2)), hb.1, Nat.lt_of_lt_of_le hb.2 hk.size⟩) h
theorem NdB.ext {B : Nat} {W W' : World} {n : Nd} {sv : Value} (h : NdB B W n sv) (hx : Ext W W') : NdB B W' n sv := h.keeps (F := fun _ => False) (Keeps.of_ext hx) (fun _ _ _ hf => hf)
theorem NdB.mono {B B' : Nat} {W : World} {n : Nd} {sv : Value} (h : NdB B W n sv) (hb : B' ≤ B) : NdB B' W n sv :=
  NdIn.keep (fun _ hx => ⟨rfl, Nat.le_trans hb hx.1, hx.2⟩) h
theorem NdB.keep1 {B : Nat} {w w1 : World} {g : Nat} {n : Nd} {sv : Value} (h : NdB B w n sv) (k : Keeps (· = g) w w1) (hg : g < B) : NdB B w1 n sv := h.keeps k (fun b hb _ e => by omega)
theorem NdB.nil (B : Nat) (W : World) (h : Hd) (A : Option Addr) (c : Nat) : NdB B W (.mk h []) (.slice A 0 c) := ⟨A, c, rfl, trivial⟩
theorem NdB.head {B : Nat} {W : World} {h h' : Hd} {s : List Nd} {sv : Value} (hn : NdB B W (.mk h s) sv) : NdB B W (.mk h' s) sv := hn
theorem NdB.one {B : Nat} {W : World} {n : Nd} {sv : Value} {g : Nat} {t : TypeId} (h : NdB B W n sv) (hg : Blk W g t (nodeA n.h sv)) (hB : B ≤ g) (hd : Hd) (c : Nat) : NdB B W (.mk hd [n]) (.slice (some ⟨g, 0, none⟩) 1 c) :=
  NdIn.one h hg ⟨hB, hg.lt⟩ hd c
/-- What a call that makes such a tree answers. -/
def RetB (w : World) (n : Nd) (r : Ending) (w' : World) : Prop := ∃ sv, r = .returned (nodeV n.h sv) ∧ NdB w.heap.size w' n sv ∧ Ext w w'

/-- A list of trees under way, all in blocks from B on, none in the list's own block. -/
structure LstB (W : World) (B C : Nat) (v : Value) (l : List (Nd × Value)) : Prop where
  own : OwnR W B 27 10 v (l.map fun x => nodeC x.1.h x.2)
  kid : ∀ x ∈ l, NdIn W (fun b => C ≤ b ∧ Off W v b) x.1 x.2
theorem LstB.nil (W : World) (B C : Nat) : LstB W B C (.slice none 0 0) [] := ⟨OwnR.nil _ _ _ _, (fun _ h => by cases h)⟩
theorem LstB.ext {W W' : World} {B C : Nat} {v : Value} {l : List (Nd × Value)} (h : LstB W B C v l) (hx : Ext W W') : LstB W' B C v l :=
  ⟨h.own.ext hx, fun x hm => NdIn.keep (fun b hb => ⟨sameAt_of_block (Below.block hx b hb.2.1), hb.1, Nat.lt_of_lt_of_le hb.2.1 hx.size, hb.2.2⟩) (h.kid x hm)⟩
theorem LstB.keep1 {W W' : World} {B C g : Nat} {v : Value} {l : List (Nd × Value)} (h : LstB W B C v l) (hk : Keeps (· = g) W W') (hgB : g < B) (hg : g < C) : LstB W' B C v l :=
  ⟨h.own.keeps hk (fun i hi e => by have := (h.own.own i hi).1; omega), fun x hm => NdIn.keep (fun b hb => ⟨sameAt_of_block (hk.block b hb.2.1 (fun e => by omega)), hb.1, Nat.lt_of_lt_of_le hb.2.1 hk.size, hb.2.2⟩) (h.kid x hm)⟩
theorem LstB.len {W : World} {B C : Nat} {v : Value} {l : List (Nd × Value)} (h : LstB W B C v l) : ∃ A c, v = .slice A l.length c ∧ l.length ≤ c := by
  have := h.own.shape
  simpa using this
theorem LstB.ownB {W : World} {B C : Nat} {v : Value} {l : List (Nd × Value)} (h : LstB W B C v l) : ∀ i, v.ownBlock = some i → B ≤ i ∧ i < W.heap.size := h.own.own
theorem LstB.in_ {W : World} {B C : Nat} {v : Value} {l : List (Nd × Value)} (h : LstB W B C v l) : LstIn W B v l := ⟨h.own, fun x hm => NdIn.keep (fun _ hb => ⟨rfl, hb.2⟩) (h.kid x hm)⟩
theorem LstB.snoc {W1 W2 : World} {B C : Nat} {v v' : Value} {l : List (Nd × Value)} {n : Nd} {sv : Value} (h : LstB W1 B C v l) (hn : NdIn W1 (fun b => C ≤ b ∧ Off W1 v b) n sv)
    (ho : OwnR W2 B 27 10 v' ((l.map fun x => nodeC x.1.h x.2) ++ [nodeC n.h sv])) (hg : W1.grownBy W2 v.ownBlock) (hat : v'.ownBlock = v.ownBlock ∨ v'.ownBlock = some W1.heap.size) : LstB W2 B C v' (l ++ [(n, sv)]) := by
  have hk : ∀ {m : Nd} {sm : Value}, NdIn W1 (fun b => C ≤ b ∧ Off W1 v b) m sm → NdIn W2 (fun b => C ≤ b ∧ Off W2 v' b) m sm := fun hm => hm.keep fun b hb =>
    ⟨sameAt_of_block (hg.block b hb.2.1 (fun e => hb.2.2 e.symm)), hb.1, Nat.lt_of_lt_of_le hb.2.1 hg.size, fun e => by
      rcases hat with h4 | h4
      · exact hb.2.2 (h4 ▸ e)
      · rw [h4] at e; injection e with e; have := hb.2.1; omega⟩
  refine ⟨by simpa using ho, fun x hm => ?_⟩
  rcases List.mem_append.1 hm with hm | hm
  · exact hk (h.kid x hm)
  · simp only [List.mem_singleton] at hm
    subst hm
    exact hk hn
theorem ndsIn_of {W : World} {S : Nat → Prop} {g o : Nat} (hg : S g) : ∀ (l : List (Nd × Value)) (k : Nat), (∀ j x, l[j]? = some x → ∀ i, i < 10 → W.cell? ⟨g, o + (k + j) * 10 + i, none⟩ = (nodeC x.1.h x.2)[i]?) → (∀ x ∈ l, NdIn W S x.1 x.2) → NdsIn W S (l.map (·.1)) (some ⟨g, o, none⟩) k
  | [], _, _, _ => trivial
  | x :: l, k, hc, hk => ⟨⟨g, o, x.2, hg, rfl, fun i hi => hc 0 x rfl i hi, hk x (by simp)⟩, ndsIn_of hg l (k + 1) (fun j y hj i hi => by
      rw [show k + 1 + j = k + (j + 1) by omega]
      exact hc (j + 1) y (by simpa using hj) i hi) (fun y hy => hk y (by simp [hy]))⟩
theorem LstB.node {W : World} {B C : Nat} {v : Value} {l : List (Nd × Value)} (h : LstB W B C v l) (hCB : C ≤ B) (hd : Hd) : NdB C W (.mk hd (l.map (·.1))) v := by
  rcases h.own.slice with ⟨rfl, h0⟩ | ⟨g, cap, cur, rfl, hg, hb, _⟩
  · have : l = [] := by cases l with
      | nil => rfl
      | cons => simp at h0
    subst this
    exact ⟨none, 0, rfl, trivial⟩
  · refine ⟨some ⟨g, 0, none⟩, cap, by simp, ndsIn_of ⟨Nat.le_trans hCB hg, hb.lt⟩ l 0 (fun j x hj i hi => ?_) (fun x hm => NdIn.keep (fun _ hb => ⟨rfl, hb.1, hb.2.1⟩) (h.kid x hm))⟩
    have := h.own.cell j (nodeC x.1.h x.2) (by simp [hj]) i hi
    simpa using this

section
variable {ops : Array Oper} {rest : List Oper} {o : Oper} {a : Act} {w : World} {Q : Exit → Act → World → Prop}
/-- 'list = append(list, node)' where the call made the list. -/
theorem wpl_appB (hgd : o.guard = none) (s x : Operand) (ho : o.op = .call { callee := .builtin .append, args := #[s, x], argTypes := #[25, 25] })
    (B C : Nat) (v : Value) (l : List (Nd × Value)) (n : Nd) (sv : Value) (g c : Nat) (hs : a.eval s = v) (hx : a.eval x = .slice (some ⟨g, 0, none⟩) 1 c) (hL : LstB w B C v l) (hB : B ≤ w.heap.size) (hn : NdIn w (fun b => C ≤ b ∧ Off w v b) n sv) (hg : Blk w g 27 (nodeA n.h sv)) (hl : l.length ≤ 1000000000)
    (hK : ∀ v' w1, LstB w1 B C v' (l ++ [(n, sv)]) → w.grownBy w1 v.ownBlock → wpList Tryz.prog ops Q rest (a.put o.dst v') w1) : wpList Tryz.prog ops Q (o :: rest) a w := by
  refine wpList_appR hgd s x _ ho B 27 _ 10 96 Tryz.underlying25 info_ndZ rfl (by decide) v _ hs hL.own g c (nodeC n.h sv) rfl hx (fun i _ => by rw [hg.cell, nodeA_get]) (nodeC_one hn.ok.sl) (by simp; omega) (by simp; omega) hB ?_
  intro v' w1 h1 h2 h3
  exact hK v' w1 (hL.snoc hn h1 h2 h3) h2
theorem ext_grown_B {w0 w w1 : World} {B C : Nat} {v : Value} {l : List (Nd × Value)} (h : Ext w0 w) (hL : LstB w B C v l) (hB : w0.heap.size ≤ B) (hg : w.grownBy w1 v.ownBlock) : Ext w0 w1 :=
  h.grown hg fun k hk => by have := (hL.ownB k hk).1; omega
/-- A tree older than the list. -/
theorem NdB.far {C : Nat} {W0 W : World} {n : Nd} {sv v : Value} (h : NdB C W0 n sv) (hx : Ext W0 W) (hv : ∀ i, v.ownBlock = some i → W0.heap.size ≤ i) : NdIn W (fun b => C ≤ b ∧ Off W v b) n sv :=
  NdIn.keep (fun b hb => ⟨sameAt_of_block (Below.block hx b hb.2), hb.1, Nat.lt_of_lt_of_le hb.2 hx.size, fun e => by have := hv b e; omega⟩) h
/-- A tree younger than the list. -/
theorem NdB.near {C D : Nat} {W : World} {n : Nd} {sv v : Value} (h : NdB D W n sv) (hCD : C ≤ D) (hv : ∀ i, v.ownBlock = some i → i < D) : NdIn W (fun b => C ≤ b ∧ Off W v b) n sv :=
  NdIn.keep (fun b hb => ⟨rfl, Nat.le_trans hCD hb.1, hb.2, fun e => by have := hv b e; omega⟩) h
theorem ndIn_ext {C : Nat} {W W' : World} {n : Nd} {sv v : Value} (h : NdIn W (fun b => C ≤ b ∧ Off W v b) n sv) (hx : Ext W W') : NdIn W' (fun b => C ≤ b ∧ Off W' v b) n sv :=
  NdIn.keep (fun b hb => ⟨sameAt_of_block (Below.block hx b hb.2.1), hb.1, Nat.lt_of_lt_of_le hb.2.1 hx.size, hb.2.2⟩) h
end
theorem grown_keep1 {w w1 : World} {g : Nat} {row : Option Nat} {t : TypeId} {cs : Array Value} (h : Blk w g t cs) (hg : w.grownBy w1 row) (hne : row ≠ some g) : Blk w1 g t cs := h.keeps (Keeps.of_grown hg) hne

end Go.Proofs.YtgfknlkpdiejgaaGreatDoor

namespace Go.Proofs.YtgfknlkpdiejgaaGreatDoor
open Go Go.RowKit

section
variable {P : Program} {ops : Array Oper} {md : Region.Mode} {Q : Exit → Act → World → Prop} {S : World → Prop} {m : Nat}

/-- As wpAny, and S holds behind each operation ahead of number m. -/
def wpAnyM (P : Program) (md : Region.Mode) (ops : Array Oper) (Q : Exit → Act → World → Prop) (S : World → Prop) (m : Nat) : Nat → Array Bool → Act → World → Prop
  | 0, listed, a, w => Region.ready md ops listed = [] ∧ Q .normal a w
  | f + 1, listed, a, w => (Region.ready md ops listed = [] → Q .normal a w) ∧
      ∀ i ∈ Region.ready md ops listed, wpOp P ops Q i (fun a' w' => if i = m then wpAny P md ops Q f (listed.setIfInBounds i true) a' w' else S w' ∧ wpAnyM P md ops Q S m f (listed.setIfInBounds i true) a' w') a w
theorem wpAny_of_mid : ∀ (f : Nat) (listed : Array Bool) (a : Act) (w : World), wpAnyM P md ops Q S m f listed a w → wpAny P md ops Q f listed a w
  | 0, _, _, _, h => h
  | f + 1, _, _, _, h => ⟨h.1, fun i hi => wpOp_mono (fun a' w' h' => by
      by_cases he : i = m
      · rw [if_pos he] at h'; exact h'
      · rw [if_neg he] at h'; exact wpAny_of_mid f _ a' w' h'.2) (h.2 i hi)⟩

/-- Each of cs waits for i or for one of cs. -/
def waitB (md : Region.Mode) (ops : Array Oper) (i : Nat) (cs : List Nat) : Bool := cs.all fun c => (depsL md ops c).any fun d => d == i || cs.contains d
theorem wait_not {i j : Nat} {cs : List Nat} {listed : Array Bool} (hw : waitB md ops i cs = true) (hj : j ∈ Region.ready md ops listed) (hi : listed.getD i true = false) (hcs : ∀ c ∈ cs, listed.getD c true = false) : j ∉ cs := fun hm => by
  have h1 := List.all_eq_true.1 hw j hm
  obtain ⟨d, hd, h2⟩ := List.any_eq_true.1 h1
  obtain ⟨_, o, ho, hall⟩ := mem_ready.1 hj
  unfold depsL at hd
  rw [ho] at hd
  obtain ⟨e, he, rfl⟩ := List.mem_map.1 hd
  obtain ⟨he1, he2⟩ := List.mem_filter.1 he
  have h3 := hall e (by simpa using he1) he2
  rcases Bool.or_eq_true _ _ ▸ h2 with h2 | h2
  · rw [beq_iff_eq] at h2
    rw [h2, getD_both hi] at h3
    cases h3
  · rw [getD_both (hcs _ (by simpa using h2))] at h3
    cases h3
theorem wpAnyM_first {i : Nat} {oi : Oper} {v : Value} {cs : List Nat} (hi : ops[i]? = some oi) (hsel : ∀ (j : Nat) (o : Oper) cs b, ops[j]? = some o → o.op ≠ .select cs b)
    (hQ : ∀ c a w, Q (.panic c) (a.put oi.dst v) w → Q (.panic c) a w) (hw : waitB md ops i cs = true) (hm : m ∈ cs) (him : i ∉ cs) :
    ∀ (f : Nat) (listed : Array Bool) (a : Act) (w : World),
      (∀ j oj, ops[j]? = some oj → j ≠ i → listed.getD j true = false → (∀ e ∈ oj.after, Region.binds md e = true → e.on ≠ i) → oi.apart ops oj = true) →
      i ∈ Region.ready md ops listed → (∀ c ∈ cs, listed.getD c true = false) → YieldsIf P ops S oi v a → S w →
      wpAnyM P md ops Q S m f (listed.setIfInBounds i true) (a.put oi.dst v) w → wpAnyM P md ops Q S m (f + 1) listed a w := by
  have hne : i ≠ m := fun e => him (e ▸ hm)
  intro f
  induction f with
  | zero =>
    intro listed a w _ hr hcs hy hS H
    refine ⟨fun h => (by rw [h] at hr; cases hr), fun j hj => ?_⟩
    by_cases hji : j = i
    · subst hji
      exact hy.wpOp hi hS (by rw [if_neg hne]; exact ⟨hS, H⟩)
    · have := ready_mono hj hji
      rw [H.1] at this
      cases this
  | succ f ih =>
    intro listed a w hfree hr hcs hy hS H
    refine ⟨fun h => (by rw [h] at hr; cases hr), fun j hj => ?_⟩
    by_cases hji : j = i
    · subst hji
      exact hy.wpOp hi hS (by rw [if_neg hne]; exact ⟨hS, H⟩)
    · have h1 := H.2 j (ready_mono hj hji)
      obtain ⟨hjun, oj, hoj, hall⟩ := mem_ready.1 hj
      have hun := (mem_ready.1 hr).1
      have hjc := wait_not hw hj hun hcs
      have hjm : j ≠ m := fun e => hjc (e ▸ hm)
      have hnot : ∀ e ∈ oj.after, Region.binds md e = true → e.on ≠ i := fun e he hb heq => by
        have h1 := hall e he hb
        rw [heq, getD_both hun] at h1
        cases h1
      have hap := hfree j oj hoj hji hjun hnot
      have h2 := wpOp_putIf hoj hap (fun cs b => hsel i oi cs b hi) (fun cs b => hsel j oj cs b hoj) hQ hy h1
      refine wpOp_mono (fun a' w' h3 => ?_) h2
      rw [if_neg hjm]
      have h4 := h3.2
      rw [if_neg hjm] at h4
      refine ⟨h4.1, ih (listed.setIfInBounds j true) a' w' (fun k ok hk hki hk2 hno => ?_) (ready_mono hr (Ne.symm hji)) (fun c hc => ?_) h3.1 h4.1 ?_⟩
      · refine hfree k ok hk hki ?_ hno
        by_cases hjk : j = k
        · subst hjk; exact hjun
        · rw [getD_set_ne true hjk] at hk2; exact hk2
      · rw [getD_set_ne true (fun e => by subst e; exact hjc hc)]
        exact hcs c hc
      · rw [Array.setIfInBounds_comm _ _ hji]
        exact h4.2
/-- Take number i first; cs: those from it to number m that wait for it. -/
theorem wpAnyM_take {i : Nat} {oi : Oper} {v : Value} {f : Nat} {listed : Array Bool} {a : Act} {w : World} (cs : List Nat) (hi : ops[i]? = some oi)
    (hs : Region.noSelect ops = true) (hf : Region.free md ops listed i = true) (hr : (Region.ready md ops listed).contains i = true)
    (hw : (waitB md ops i cs && cs.contains m && !cs.contains i && cs.all fun c => !listed.getD c true) = true)
    (hQ : ∀ c a w, Q (.panic c) (a.put oi.dst v) w → Q (.panic c) a w) (hS : S w) (hy : YieldsIf P ops S oi v a)
    (h : wpAnyM P md ops Q S m f (listed.setIfInBounds i true) (a.put oi.dst v) w) : wpAnyM P md ops Q S m (f + 1) listed a w := by
  simp only [Bool.and_eq_true, Bool.not_eq_true', List.all_eq_true] at hw
  obtain ⟨⟨⟨h1, h2⟩, h3⟩, h4⟩ := hw
  exact wpAnyM_first hi (Region.noSelect_spec hs) hQ h1 (by simpa using h2) (by simpa using h3) f listed a w (Region.free_spec hi hf) (by simpa using hr) h4 hy hS h
theorem wpAnyM_firstP {i : Nat} {oi : Oper} {v : Value} (hi : ops[i]? = some oi) (hsel : ∀ (j : Nat) (o : Oper) cs b, ops[j]? = some o → o.op ≠ .select cs b)
    (hQ : ∀ c a w, Q (.panic c) (a.put oi.dst v) w → Q (.panic c) a w) (hne : i ≠ m) :
    ∀ (f : Nat) (listed : Array Bool) (a : Act) (w : World),
      (∀ j oj, ops[j]? = some oj → j ≠ i → listed.getD j true = false → (∀ e ∈ oj.after, Region.binds md e = true → e.on ≠ i) → oi.apart ops oj = true) →
      i ∈ Region.ready md ops listed → Yields P ops oi v a → S w →
      wpAnyM P md ops Q S m f (listed.setIfInBounds i true) (a.put oi.dst v) w → wpAnyM P md ops Q S m (f + 1) listed a w := by
  intro f
  induction f with
  | zero =>
    intro listed a w _ hr hy hS H
    refine ⟨fun h => (by rw [h] at hr; cases hr), fun j hj => ?_⟩
    by_cases hji : j = i
    · subst hji
      exact hy.wpOp hi (by rw [if_neg hne]; exact ⟨hS, H⟩)
    · have := ready_mono hj hji
      rw [H.1] at this
      cases this
  | succ f ih =>
    intro listed a w hfree hr hy hS H
    refine ⟨fun h => (by rw [h] at hr; cases hr), fun j hj => ?_⟩
    by_cases hji : j = i
    · subst hji
      exact hy.wpOp hi (by rw [if_neg hne]; exact ⟨hS, H⟩)
    · have h1 := H.2 j (ready_mono hj hji)
      obtain ⟨hjun, oj, hoj, hall⟩ := mem_ready.1 hj
      have hun := (mem_ready.1 hr).1
      have hnot : ∀ e ∈ oj.after, Region.binds md e = true → e.on ≠ i := fun e he hb heq => by
        have h1 := hall e he hb
        rw [heq, getD_both hun] at h1
        cases h1
      have hap := hfree j oj hoj hji hjun hnot
      have h2 := wpOp_put hoj hap (fun cs b => hsel i oi cs b hi) (fun cs b => hsel j oj cs b hoj) hQ hy h1
      have hfree2 : ∀ k ok, ops[k]? = some ok → k ≠ i → (listed.setIfInBounds j true).getD k true = false → (∀ e ∈ ok.after, Region.binds md e = true → e.on ≠ i) → oi.apart ops ok = true := fun k ok hk hki hk2 hno => by
        refine hfree k ok hk hki ?_ hno
        by_cases hjk : j = k
        · subst hjk; exact hjun
        · rw [getD_set_ne true hjk] at hk2; exact hk2
      refine wpOp_mono (fun a' w' h3 => ?_) h2
      have h4 := h3.2
      by_cases hjm : j = m
      · rw [if_pos hjm] at h4 ⊢
        refine wpAny_first hi hsel hQ f _ a' w' hfree2 (ready_mono hr (Ne.symm hji)) h3.1 ?_
        rw [Array.setIfInBounds_comm _ _ hji]
        exact h4
      · rw [if_neg hjm] at h4 ⊢
        refine ⟨h4.1, ih (listed.setIfInBounds j true) a' w' hfree2 (ready_mono hr (Ne.symm hji)) h3.1 h4.1 ?_⟩
        rw [Array.setIfInBounds_comm _ _ hji]
        exact h4.2
/-- Take number i first, which does not look at the world. -/
theorem wpAnyM_pure {i : Nat} {oi : Oper} {v : Value} {f : Nat} {listed : Array Bool} {a : Act} {w : World} (hi : ops[i]? = some oi)
    (hs : Region.noSelect ops = true) (hf : Region.free md ops listed i = true) (hr : (Region.ready md ops listed).contains i = true) (hne : i ≠ m)
    (hQ : ∀ c a w, Q (.panic c) (a.put oi.dst v) w → Q (.panic c) a w) (hS : S w) (hg : oi.guard = none) (hy : ∀ w, (execOp a.eval oi).run P w = .ok (.value v) w)
    (h : wpAnyM P md ops Q S m f (listed.setIfInBounds i true) (a.put oi.dst v) w) : wpAnyM P md ops Q S m (f + 1) listed a w :=
  wpAnyM_firstP hi (Region.noSelect_spec hs) hQ hne f listed a w (Region.free_spec hi hf) (by simpa using hr) (.inl ⟨by simp [Region.wanted, hg], hy⟩) hS h
/-- The one that comes up next, ahead of number m. -/
theorem wpAnyM_step {i : Nat} {o : Oper} {f : Nat} {listed : Array Bool} {a : Act} {w : World} (hr : Region.ready md ops listed = [i]) (ho : ops[i]? = some o) (hne : i ≠ m)
    (h : wpList P ops (stepQ fun a' w' => S w' ∧ wpAnyM P md ops Q S m f (listed.setIfInBounds i true) a' w') [o] a w) : wpAnyM P md ops Q S m (f + 1) listed a w := by
  refine ⟨fun h0 => (by rw [hr] at h0; cases h0), fun j hj => ?_⟩
  rw [hr, List.mem_singleton] at hj
  subst hj
  exact wpOp_of_list ho (fun a' w' h1 => by rw [if_neg hne]; exact h1) h
/-- Number m and one behind it. -/
theorem wpAnyM_last {t : Nat} {o o' : Oper} {f : Nat} {listed : Array Bool} {a : Act} {w : World} (hr : Region.ready md ops listed = [m]) (ho : ops[m]? = some o) (hr2 : Region.ready md ops (listed.setIfInBounds m true) = [t]) (ho' : ops[t]? = some o') (hr3 : Region.ready md ops ((listed.setIfInBounds m true).setIfInBounds t true) = [])
    (h : wpList P ops (stepQ fun a' w' => wpList P ops Q [o'] a' w') [o] a w) : wpAnyM P md ops Q S m (f + 2) listed a w := by
  refine ⟨fun h0 => (by rw [hr] at h0; cases h0), fun j hj => ?_⟩
  rw [hr, List.mem_singleton] at hj
  subst hj
  refine wpOp_of_list ho (fun a' w' h1 => ?_) h
  rw [if_pos rfl]
  refine ⟨fun h0 => (by rw [hr2] at h0; cases h0), fun j hj => ?_⟩
  rw [hr2, List.mem_singleton] at hj
  subst hj
  refine wpOp_of_last ho' (fun a'' w'' h2 => ?_) h1
  cases f with
  | zero => exact ⟨hr3, h2⟩
  | succ f => exact ⟨fun _ => h2, by rw [hr3]; simp⟩
/-- Number m and two behind it. -/
theorem wpAnyM_last3 {t u : Nat} {o o' o'' : Oper} {f : Nat} {listed : Array Bool} {a : Act} {w : World} (hr : Region.ready md ops listed = [m]) (ho : ops[m]? = some o) (hr2 : Region.ready md ops (listed.setIfInBounds m true) = [t]) (ho' : ops[t]? = some o')
    (hr3 : Region.ready md ops ((listed.setIfInBounds m true).setIfInBounds t true) = [u]) (ho'' : ops[u]? = some o'') (hr4 : Region.ready md ops (((listed.setIfInBounds m true).setIfInBounds t true).setIfInBounds u true) = [])
    (h : wpList P ops (stepQ fun a' w' => wpList P ops (stepQ fun a'' w'' => wpList P ops Q [o''] a'' w'') [o'] a' w') [o] a w) : wpAnyM P md ops Q S m (f + 3) listed a w := by
  refine ⟨fun h0 => (by rw [hr] at h0; cases h0), fun j hj => ?_⟩
  rw [hr, List.mem_singleton] at hj
  subst hj
  refine wpOp_of_list ho (fun a1 w1 h1 => ?_) h
  rw [if_pos rfl]
  refine ⟨fun h0 => (by rw [hr2] at h0; cases h0), fun j hj => ?_⟩
  rw [hr2, List.mem_singleton] at hj
  subst hj
  refine wpOp_of_list ho' (fun a2 w2 h2 => ?_) h1
  refine ⟨fun h0 => (by rw [hr3] at h0; cases h0), fun j hj => ?_⟩
  rw [hr3, List.mem_singleton] at hj
  subst hj
  refine wpOp_of_last ho'' (fun a3 w3 h3 => ?_) h2
  cases f with
  | zero => exact ⟨hr4, h3⟩
  | succ f => exact ⟨fun _ => h3, by rw [hr4]; simp⟩
/-- The beginning. -/
theorem wp_region_mid {id : Nat} {a : Act} {w : World} (S : World → Prop) (m : Nat) (hm : P.follows .mixedOrders = true)
    (h : wpAnyM P .any ops Q S m ops.size (Array.replicate ops.size false) a w.drew) : (Code.region id ops true).wp P Q a w :=
  wp_region_any hm (wpAny_of_mid _ _ _ _ h)
/-- What an operation without a guard answers in every world of S. -/
theorem yieldsIf_value {o : Oper} {v : Value} {a : Act} (hg : o.guard = none) (h : ∀ w, S w → (execOp a.eval o).run P w = .ok (.value v) w) : YieldsIf P ops S o v a := .inl ⟨by simp [Region.wanted, hg], h⟩
theorem stepQ_ok {K : Act → World → Prop} {a : Act} {w : World} (h : K a w) : stepQ K .normal a w := h
theorem stepQ_end {K : Act → World → Prop} {ops : Array Oper} {a : Act} {w : World} (h : K a w) : wpList P ops (stepQ K) [] a w := h
end

end Go.Proofs.YtgfknlkpdiejgaaGreatDoor

namespace Go.Proofs.YtgfknlkpdiejgaaGreatDoor
open Go Go.RowKit

/-- Which sub comes next. -/
def nxT (h : Hd) (n i : Nat) : Nat := if h.kind = 5 then n - 1 - i else i
def trnA (h : Hd) (subs : List Nd) : List Nd := if h.kind = 5 then (trnL subs).reverse else trnL subs
theorem trnA_len (h : Hd) (subs : List Nd) : (trnA h subs).length = subs.length := by unfold trnA; split <;> simp [trnL_len]
theorem trnA_get (h : Hd) (subs : List Nd) (i : Nat) (hi : i < subs.length) : ∃ hj : nxT h subs.length i < subs.length, (trnA h subs)[i]? = some (trnN subs[nxT h subs.length i]) := by
  rw [List.getElem?_eq_getElem (by rw [trnA_len]; exact hi)]
  by_cases k5 : h.kind = 5
  · have hj : nxT h subs.length i = subs.length - 1 - i := by unfold nxT; rw [if_pos k5]
    refine ⟨by rw [hj]; omega, ?_⟩
    simp only [trnA, if_pos k5, List.getElem_reverse, trnL_map, List.getElem_map, List.length_map, hj]
  · have hj : nxT h subs.length i = i := by unfold nxT; rw [if_neg k5]
    refine ⟨by rw [hj]; exact hi, ?_⟩
    simp only [trnA, if_neg k5, trnL_map, List.getElem_map, hj]
theorem trnN_eq (h : Hd) (subs : List Nd) : trnN (.mk h subs) = .mk (trnH h) (trnA h subs) := by rw [trnN]; rfl

set_option maxRecDepth 100000 in
set_option maxHeartbeats 16000000 in
theorem rturn_any : ∀ (t : Nd) (svn : Value) (w : World), NdOk w t svn → smallN t →
    Calls Tryz.prog 92 #[nodeV t.h svn] w (RetB w (trnN t)) := by
  refine Nd.ind fun h subs ih svn w hn hsm => ?_
  obtain ⟨SA, sc, rfl⟩ := hn.shape
  obtain ⟨hlen, hsmL⟩ := hsm
  have HIH := Lib.hid (fun n hm sv w hn => ih n hm sv w hn (smallL_mem hsmL n hm))
  have HN := Lib.hid hn
  have HTA := Lib.hid (trnA_get h subs)
  have HTL := Lib.hid (trnA_len h subs)
  rw [trnN_eq]
  generalize trnA h subs = TS at *
  simp only [Nd.subs, Nd.h] at *
  clear ih hn hsmL
  go_enter Tryz.func92, Tryz.ntmps92
  go_upto_region 4 with (first
    | (refine wpl_boxNd rfl _ rfl h _ rfl ?_; intro b w1 hb hx1 eb sb)
    | (have := hz2; refine wpl_allocNd rfl rfl ?_; intro z3 w3 hz3 hx3 e3 s3)
    | (refine wpl_allocNd rfl rfl ?_; intro z2 w2 hz2 hx2 e2 s2)
    | (refine wpl_loadNd rfl _ rfl b 0 h _ rfl (hb.ext hx2).nd ?_)
    | (refine wpl_storeNd rfl _ _ rfl rfl z3 h _ (.slice SA subs.length sc) _ rfl rfl (isSl_mk _ _ _) hz3 ?_; intro w4 hz4 hk4)
    | (refine wpl_storeSubs rfl _ _ rfl rfl z3 h (.slice none 0 0) _ rfl rfl (isSl_mk _ _ _) hz4 ?_; intro w5 hz5 hk5; have b5 : w5.cell? ⟨b, 5, none⟩ = some (.slice SA subs.length sc) := (((hb.ext hx2).ext hx3).keep1 hk4 (by omega) |>.keep1 hk5 (by omega)).cell 5))
  have hx12 := hx1.trans hx2
  have es : w2.heap.size ≤ z3 := e3
  have hx25 := (hx3.keep1 hk4 es).keep1 hk5 es
  have hb5 : Blk w5 b 27 (nodeA h (.slice SA subs.length sc)) := (hb.ext hx2).ext hx25
  have hz25 := hz2.ext hx25
  have hwz : w.heap.size ≤ z2 := by have := hx1.size; omega
  have hz23 : z2 ≠ z3 := by omega
  have HX5 := Lib.hid (hx12.trans hx25)
  have HB5 := Lib.hid hb5
  have HZ5 := Lib.hid hz25
  have hs5l := hz5.lt
  have hs2l := hz25.lt
  have hx55 := Ext.refl w5
  have HS5 := Lib.hid hz5
  have hwz3 : w.heap.size ≤ z3 := by have := hx1.size; have := hx2.size; omega
  have hbz3 : b ≠ z3 := by omega
  clear hb hx1 eb sb hz2 hx2 e2 s2 hz3 hx3 e3 s3 hz4 hk4 hz5 hk5 b5 hx12 es hx25 hb5 hz25
  have hL0 : LstB w5 w5.heap.size w5.heap.size (.slice none 0 0) [] := LstB.nil _ _ _
  have hk55 : Keeps (· = z3) w5 w5 := Keeps.refl _ _
  go_upto_region 5 with fail
  go_loopw [5] (fun iv wr => ∃ (i : Nat) (v : Value) (l : List (Nd × Value)), i ≤ subs.length ∧ iv = .int .i64 i ∧ l.map (·.1) = TS.take i ∧ LstB wr w5.heap.size w5.heap.size v l ∧ Blk wr z3 27 (nodeA h v) ∧ Keeps (· = z3) w5 wr) (fun iv _ => subs.length - (intOf iv).toNat)
  case atStart => exact ⟨0, _, [], Nat.zero_le _, rfl, by rw [List.take_zero]; rfl, hL0, HS5.out, hk55⟩
  case round =>
    clear hL0 hk55 hx55
    obtain ⟨i, v, l, hi, rfl, hl, hL, hB, hK⟩ := hrel
    have HL := Lib.hid hl
    have hll : l.length = i := by have := congrArg List.length hl; have h2 := HTL.out; simp only [List.length_map, List.length_take] at this; omega
    have hll2 : l.length ≤ 1000000000 := by omega
    have HLN := Lib.hid hll
    clear hl hll
    have hwr : w5.heap.size ≤ wr.heap.size := hK.size
    have hxr : Ext w wr := HX5.out.keep1 hK hwz3
    have hbr : Blk wr b 27 (nodeA h (.slice SA subs.length sc)) := HB5.out.keep1 hK hbz3
    have c0 : wr.cell? ⟨b, 0, none⟩ = some (.int .i64 h.kind) := hbr.cell 0
    have c5 : wr.cell? ⟨b, 5, none⟩ = some (.slice SA subs.length sc) := hbr.cell 5
    have HXR := Lib.hid hxr
    have HKR := Lib.hid hK
    have HBR := Lib.hid hbr
    clear hxr hK hbr
    by_cases hlt : i < subs.length
    · have q9 : (i : Int) < (subs.length : Int) := by omega
      obtain ⟨hj, htj⟩ := HTA.out i hlt
      have hjv : (if h.kind = 5 then (subs.length : Int) - 1 - i else (i : Int)) = ((nxT h subs.length i : Nat) : Int) := by unfold nxT; split <;> omega
      generalize nxT h subs.length i = j at *
      have HJV := Lib.hid hjv
      obtain ⟨g0, o0, sv, rfl, hat, hok⟩ := HN.out.get j hj
      replace hat : NdAt wr g0 (o0 + j * 10) (subs[j]).h sv := NdAt.ext (fun i hi => hat i hi) HXR.out
      have IHk := Lib.hid (fun w' (hw' : Ext wr w') => HIH.out subs[j] (List.getElem_mem hj) sv w' (NdOk.ext (HXR.out.trans hw') _ _ hok))
      have HM : Hid ((l.map (·.1)) ++ [trnN subs[j]] = TS.take (i + 1)) := Lib.hid (by rw [HL.out, List.take_add_one, htj]; rfl)
      have hsl := hok.sl
      clear HL hok htj hjv
      generalize trnN subs[j] = ek at *
      generalize subs[j] = nk at *
      go_upto_if 20 with fail
      go_cut [6, 20] (fun v _ wx => v = .int .i64 j ∧ wr = wx)
      case first =>
        by_cases k5 : h.kind = 5
        · have hv := HJV.out
          rw [if_pos k5] at hv
          have q8 : (h.kind == 5) = true := by rw [beq_iff_eq]; exact k5
          have q7 : IntKind.i64.wrap ((subs.length : Int) - 1) = (subs.length : Int) - 1 := by rw [IntKind.wrap_i64]; omega
          have q6 : IntKind.i64.wrap ((subs.length : Int) - 1 - i) = (j : Int) := by rw [hv, IntKind.wrap_i64]; omega
          clear hv k5 c5
          generalize h.kind = kd at *
          go_wp2
          go_meet
          case rel => exact ⟨rfl, rfl⟩
        · have hv := HJV.out
          rw [if_neg k5] at hv
          have q8 : (h.kind == 5) = false := by rw [beq_eq_false_iff_ne]; exact k5
          clear k5 c5
          generalize h.kind = kd at *
          go_wp2
          go_meet
          case rel => exact ⟨by rw [hv], rfl⟩
      obtain ⟨rfl, rfl⟩ := hcut
      clear c0
      have k5 : ∀ W, Ext wr W → W.cell? ⟨z3, 5, none⟩ = some v := fun W hW => (hB.ext hW).cell 5
      go_upto_region 10 with fail
      refine wp_region_mid (fun W => Ext wr W) 9 (by kernel_rfl) ?_
      refine wpAnyM_pure (i := 0) rfl (by kernel_rfl) (by kernel_rfl) (by kernel_rfl) (by decide) (fun _ _ _ h => h) (Ext.refl wr).drew rfl (fun W => by go_simp; try rfl) ?_
      refine wpAnyM_take (i := 1) (v := v) [9] rfl (by kernel_rfl) (by kernel_rfl) (by kernel_rfl) (by kernel_rfl) (fun _ _ _ h => h) (Ext.refl wr).drew (yieldsIf_value rfl (fun W hW => by have k5' := k5 W hW; go_simp; try rfl)) ?_
      simp only [Act.put, List.setIfInBounds_toArray]
      refine wpAnyM_pure (i := 2) rfl (by kernel_rfl) (by kernel_rfl) (by kernel_rfl) (by decide) (fun _ _ _ h => h) (Ext.refl wr).drew rfl (fun W => by go_simp; try rfl) ?_
      refine wpAnyM_pure (i := 4) rfl (by kernel_rfl) (by kernel_rfl) (by kernel_rfl) (by decide) (fun _ _ _ h => h) (Ext.refl wr).drew rfl (fun W => by go_simp; try rfl) ?_
      simp only [Act.put]
      have c5d : wr.drew.cell? ⟨b, 5, none⟩ = some (.slice (some ⟨g0, o0, none⟩) subs.length sc) := c5
      have q9j : (j : Int) < (subs.length : Int) := by omega
      refine wpAnyM_step (i := 3) (by kernel_rfl) rfl (by decide) ?_
      go_wp2
      refine stepQ_ok ⟨(Ext.refl wr).drew, ?_⟩
      refine wpAnyM_step (i := 5) (by kernel_rfl) rfl (by decide) ?_
      go_wp2
      refine stepQ_ok ⟨(Ext.refl wr).drew, ?_⟩
      refine wpAnyM_step (i := 6) (by kernel_rfl) rfl (by decide) ?_
      refine wpl_loadNd rfl _ rfl g0 (o0 + j * 10) nk.h sv rfl hat.drew ?_
      refine stepQ_end ⟨(Ext.refl wr).drew, ?_⟩
      simp only [Act.put, List.setIfInBounds_toArray]
      refine wpAnyM_step (i := 7) (by kernel_rfl) rfl (by decide) ?_
      go_wp2_with (go_at_call 92; refine (IHk.out _ (Ext.refl wr).drew).mono ?_; rintro e w6 ⟨sv6, rfl, hn6, hx6⟩)
      have hx6' := (Ext.refl wr).drew.trans hx6
      refine stepQ_ok ⟨hx6', ?_⟩
      refine wpAnyM_step (i := 8) (by kernel_rfl) rfl (by decide) ?_
      refine wpl_oneNd rfl _ rfl ek.h sv6 rfl ?_
      intro g7 w7 hb7 hx7 e7 s7
      have hx7' := hx6'.trans hx7
      refine stepQ_end ⟨hx7', ?_⟩
      simp only [Act.put, List.setIfInBounds_toArray]
      have h67 := hx6'.size
      refine wpAnyM_last3 (t := 10) (u := 11) (by kernel_rfl) rfl (by kernel_rfl) rfl (by kernel_rfl) rfl (by kernel_rfl) ?_
      refine wpl_appB rfl _ _ rfl w5.heap.size w5.heap.size v l ek sv6 g7 1 rfl rfl (hL.ext hx7') (by have := hx7'.size; omega) (ndIn_ext (hn6.near (C := w5.heap.size) hwr (fun i hi => (hL.ownB i hi).2)) hx7) hb7 hll2 ?_
      intro v8 w8 hL8 hg8
      have hs8 : Blk w8 z3 27 (nodeA h v) := grown_keep1 (hB.ext hx7') hg8 (fun e => by have := (hL.ownB z3 e).1; omega)
      have hk8 : Keeps (· = z3) w5 w8 := (HKR.out.trans (Keeps.of_ext hx7') (fun _ _ h => h)).trans ((Keeps.of_grown hg8).mono (fun k _ hk => hk)) (fun k hk1 hk2 => by have := (hL.ownB k hk2).1; omega)
      refine stepQ_end ?_
      simp only [Act.put]
      go_wp2
      refine stepQ_ok ?_
      obtain ⟨A8, c8, rfl, _⟩ := hL8.len
      refine wpl_storeSubs rfl _ _ rfl rfl z3 h _ _ rfl rfl (isSl_mk _ _ _) hs8 ?_
      intro w9 hs9 hk9
      have hL9 := hL8.keep1 hk9 hs5l hs5l
      have hk9' : Keeps (· = z3) w5 w9 := hk8.trans hk9 (fun _ _ h => h)
      clear hL8 hs8 hk9 hg8 hx7' hb7 hn6 hx6 hx6' hx7 e7 s7 h67 hL hB hat k5 c5 c5d hwr hk8
      go_wp2
      go_roundw
      case rel => exact ⟨i + 1, _, l ++ [(ek, sv6)], hlt, by go_num, by simpa using HM.out, hL9, hs9, hk9'⟩
      case measure => simp [intOf]; omega
    · have q9 : ¬ (i : Int) < (subs.length : Int) := by omega
      have hTS : TS.take i = TS := List.take_of_length_le (by have := HTL.out; omega)
      rw [hTS] at HL
      have hnd := Lib.hid (hL.node (Nat.le_refl _) (trnH h))
      rw [HL.out] at hnd
      have hsl : isSl v := by obtain ⟨A8, c8, rfl, _⟩ := hL.len; exact isSl_mk _ _ _
      have hz9 := HZ5.out.keep1 HKR.out hz23
      have HZ9 := Lib.hid hz9
      have HSL := Lib.hid hsl
      have HBB := Lib.hid hB
      have z30 : wr.cell? ⟨z3, 0, none⟩ = some (.int .i64 h.kind) := hB.cell 0
      have fz30 := hB.frozen 0
      have HFIN : Hid (∀ W, Keeps (· = z3) wr W → Ext w W ∧ NdB w5.heap.size W (.mk (trnH h) TS) v) := Lib.hid (fun W hW => ⟨HXR.out.keep1 hW hwz3, hnd.out.keep1 hW (by omega)⟩)
      have HZA : Hid (∀ k : Int, nodeA { h with kind := k } v = (nodeA h v).setIfInBounds 0 (.int .i64 k)) := Lib.hid (fun k => rfl)
      have HT3 : Hid (h.kind = 3 → trnH h = { h with kind := 4 }) := Lib.hid (fun e => by unfold trnH; rw [if_pos e])
      have HT4 : Hid (h.kind = 4 → trnH h = { h with kind := 3 }) := Lib.hid (fun e => by unfold trnH; rw [if_neg (by omega), if_pos e])
      have HTN : Hid (h.kind ≠ 3 → h.kind ≠ 4 → trnH h = h) := Lib.hid (fun e1 e2 => by unfold trnH; rw [if_neg e1, if_neg e2])
      generalize trnH h = th at *
      obtain ⟨kd, hkd⟩ : ∃ kd, kd = h.kind := ⟨_, rfl⟩
      rw [← hkd] at c0 z30 HT3 HT4 HTN
      clear hkd hTS HL hnd hsl hz9 hL hB c5
      obtain ⟨h1, hh1⟩ : ∃ h1, h1 = if kd = 3 then th else h := ⟨_, rfl⟩
      have HH1 := Lib.hid hh1
      clear hh1
      go_upto_if 38 with fail
      go_cut [38] (fun _ wx => Blk wx z3 27 (nodeA h1 v) ∧ Keeps (· = z3) wr wx)
      case first =>
        by_cases k3 : kd = 3
        · have HIF : Hid (h1 = { h with kind := 4 }) := Lib.hid (by rw [HH1.out, if_pos k3, HT3.out k3])
          subst k3
          go_wp2
          go_meet
          case rel => exact ⟨by rw [HIF.out, HZA.out]; exact HBB.out.set 0 _, (Keeps.refl (· = z3) wr).setCell (p := ⟨z3, 0, none⟩) (.inr rfl) _⟩
        · have q8 : (kd == 3) = false := by rw [beq_eq_false_iff_ne]; exact k3
          have HIF : Hid (h1 = h) := Lib.hid (by rw [HH1.out, if_neg k3])
          clear k3
          go_wp2
          go_meet
          case rel => exact ⟨by rw [HIF.out]; exact HBB.out, Keeps.refl _ _⟩
      obtain ⟨hB6, hK6⟩ := hcut
      obtain ⟨w6, hw6⟩ : ∃ w, w = wc := ⟨_, rfl⟩
      subst hw6
      replace c0 := cell_keeps c0 hK6 hbz3
      have HB6 := Lib.hid hB6
      have HK6 := Lib.hid hK6
      clear hB6 hK6 z30 fz30
      go_upto_if 42 with fail
      go_cut [42] (fun _ wx => Blk wx z3 27 (nodeA th v) ∧ Keeps (· = z3) wr wx)
      case first =>
        by_cases k4 : kd = 4
        · have HT5 := Lib.hid (HT4.out k4)
          have hB6 : Blk w6 z3 27 (nodeA h v) := by have := HB6.out; rwa [HH1.out, if_neg (by omega)] at this
          subst k4
          have HB7 := Lib.hid hB6
          have z30 : w6.cell? ⟨z3, 0, none⟩ = some (.int .i64 h.kind) := hB6.cell 0
          have fz30 := hB6.frozen 0
          clear hB6
          generalize h.kind = kk at z30
          go_wp2
          go_meet
          case rel => exact ⟨by rw [HT5.out, HZA.out]; exact HB7.out.set 0 _, HK6.out.setCell (p := ⟨z3, 0, none⟩) (.inr rfl) _⟩
        · have q8 : (kd == 4) = false := by rw [beq_eq_false_iff_ne]; exact k4
          have HIF : Hid (h1 = th) := Lib.hid (by
            rw [HH1.out]
            by_cases k3 : kd = 3
            · rw [if_pos k3]
            · rw [if_neg k3, HTN.out k3 k4])
          clear k4
          go_wp2
          go_meet
          case rel => exact ⟨by rw [← HIF.out]; exact HB6.out, HK6.out⟩
      obtain ⟨hB7, hK7⟩ := hcut
      obtain ⟨w7, hw7⟩ : ∃ w, w = wc := ⟨_, rfl⟩
      subst hw7
      have HB7 := Lib.hid hB7
      have HZ7 := Lib.hid (HZ9.out.keep1 hK7 hz23)
      have hF7 := HFIN.out w7 hK7
      have HF7 := Lib.hid hF7
      clear hB7 hK7 hF7 c0
      go_wp2_with (first
        | (refine wpl_loadNd rfl _ rfl z3 0 th v rfl HB7.out.nd ?_)
        | (refine wpl_storeNd rfl _ _ rfl rfl z2 th _ v _ rfl rfl HSL.out HZ7.out ?_; intro w8 hz8 hk8))
      exact ret_nd rfl rfl rfl hz8 ⟨v, rfl, (HF7.out.2.keep1 hk8 hs2l).mono (by have := HX5.out.size; omega), HF7.out.1.keep1 hk8 hwz⟩

end Go.Proofs.YtgfknlkpdiejgaaGreatDoor
