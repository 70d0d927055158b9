/- Trees that a call makes, all of whose lists lie in blocks of their own above some block; a list of such trees under way. No program. -/
import Derived.Test.YtgfknlkpdiejgaaDoorNodeF
import Derived.Test.YtgfknlkpdiejgaaDoorRowK
namespace Go.Proofs.YtgfknlkpdiejgaaDoor
open Go Go.RowKit

theorem nodeC_len (h : Hd) (sv : Value) : (nodeC h sv).length = 10 := rfl
/-- The tree lies in blocks from B on, each list in one of its own. -/
def NdNew (B : Nat) (W : World) (n : Nd) (sv : Value) : Prop := ∃ fp, NdFp W n sv fp ∧ fp.Nodup ∧ ∀ b ∈ fp, B ≤ b ∧ b < W.heap.size
theorem NdNew.ok {B : Nat} {W : World} {n : Nd} {sv : Value} (h : NdNew B W n sv) : NdOk W n sv := by
  obtain ⟨fp, h, _⟩ := h
  exact h.ok
theorem NdNew.ext {B : Nat} {W W' : World} {n : Nd} {sv : Value} (h : NdNew B W n sv) (hx : Ext W W') : NdNew B W' n sv := by
  obtain ⟨fp, h1, h2, h3⟩ := h
  exact ⟨fp, h1.ext hx (fun b hb => (h3 b hb).2), h2, fun b hb => ⟨(h3 b hb).1, Nat.lt_of_lt_of_le (h3 b hb).2 hx.size⟩⟩
theorem NdNew.mono {B B' : Nat} {W : World} {n : Nd} {sv : Value} (h : NdNew B W n sv) (hb : B' ≤ B) : NdNew B' W n sv := by
  obtain ⟨fp, h1, h2, h3⟩ := h
  exact ⟨fp, h1, h2, fun b hm => ⟨Nat.le_trans hb (h3 b hm).1, (h3 b hm).2⟩⟩
theorem NdNew.nil (B : Nat) (W : World) (h : Hd) (A : Option Addr) (c : Nat) : NdNew B W (.mk h []) (.slice A 0 c) :=
  ⟨[], by unfold NdFp; exact .inl ⟨rfl, ⟨A, c, rfl⟩, rfl⟩, List.nodup_nil, fun b hb => by cases hb⟩
/-- The head's cells do not lie in the tree's lists. -/
theorem NdNew.head {B : Nat} {W : World} {h h' : Hd} {s : List Nd} {sv : Value} (hn : NdNew B W (.mk h s) sv) : NdNew B W (.mk h' s) sv := by
  obtain ⟨fp, h1, h2⟩ := hn
  exact ⟨fp, by unfold NdFp at h1 ⊢; exact h1, h2⟩

/-- Trees of a list under way: each with the value of its list and its blocks. -/
abbrev Kid := Nd × Value × List Nat
def kidsFp (l : List Kid) : List Nat := l.flatMap (·.2.2)
def kidsRow (l : List Kid) : List (List Value) := l.map fun x => nodeC x.1.h x.2.1
structure LstZ (W : World) (B : Nat) (e : TypeId) (v : Value) (l : List Kid) (zs : List (List Value)) : Prop where
  own : OwnR W B e 10 v (kidsRow l ++ zs)
  kid : ∀ x ∈ l, NdFp W x.1 x.2.1 x.2.2
  nodup : (kidsFp l).Nodup
  lt : ∀ b ∈ kidsFp l, B ≤ b ∧ b < W.heap.size ∧ v.ownBlock ≠ some b
abbrev LstFp (W : World) (B : Nat) (e : TypeId) (v : Value) (l : List Kid) : Prop := LstZ W B e v l []

theorem LstFp.nil (W : World) (B : Nat) (e : TypeId) : LstFp W B e (.slice none 0 0) [] :=
  ⟨OwnR.nil _ _ _ _, (fun _ h => by cases h), List.nodup_nil, (fun _ h => by cases h)⟩
theorem LstZ.ext {W W' : World} {B : Nat} {e : TypeId} {v : Value} {l : List Kid} {zs : List (List Value)} (h : LstZ W B e v l zs) (hx : Ext W W') : LstZ W' B e v l zs :=
  ⟨h.own.ext hx, fun x hm => (h.kid x hm).ext hx (fun b hb => (h.lt b (List.mem_flatMap.2 ⟨x, hm, hb⟩)).2.1), h.nodup, fun b hb => ⟨(h.lt b hb).1, Nat.lt_of_lt_of_le (h.lt b hb).2.1 hx.size, (h.lt b hb).2.2⟩⟩
theorem LstFp.len {W : World} {B : Nat} {e : TypeId} {v : Value} {l : List Kid} (h : LstFp W B e v l) : ∃ A c, v = .slice A l.length c ∧ l.length ≤ c := by
  have := h.own.shape
  simpa [kidsRow] using this
theorem LstZ.snoc {W W1 W2 : World} {B : Nat} {e : TypeId} {v v' : Value} {l : List Kid} {zs zs' : List (List Value)} {n : Nd} {sv : Value} (h : LstZ W B e v l zs) (hx : Ext W W1) (hB : B ≤ W.heap.size) (hn : NdNew W.heap.size W1 n sv)
    (ho : OwnR W2 B e 10 v' (kidsRow l ++ nodeC n.h sv :: zs')) (hg : W1.grownBy W2 v.ownBlock) (hat : v'.ownBlock = v.ownBlock ∨ v'.ownBlock = some W1.heap.size) : ∃ f, LstZ W2 B e v' (l ++ [(n, sv, f)]) zs' := by
  obtain ⟨f, h1, h2, h3⟩ := hn
  have hk := h.ext hx
  have hown : ∀ i, v.ownBlock = some i → i < W.heap.size := fun i hi => (h.own.own i hi).2
  have hsz := hx.size
  have same : ∀ b, b < W1.heap.size → v.ownBlock ≠ some b → SameAt W1 W2 b := fun b hb hne => sameAt_of_block (hg.block b hb (fun e => hne e.symm))
  refine ⟨f, by simpa [kidsRow] using ho, fun x hm => ?_, ?_, fun b hb => ?_⟩
  · rcases List.mem_append.1 hm with hm | hm
    · exact (hk.kid x hm).keep fun b hb => same b (hk.lt b (List.mem_flatMap.2 ⟨x, hm, hb⟩)).2.1 (hk.lt b (List.mem_flatMap.2 ⟨x, hm, hb⟩)).2.2
    · simp only [List.mem_singleton] at hm
      subst hm
      exact h1.keep fun b hb => same b (h3 b hb).2 (fun e => by have := hown b e; have := (h3 b hb).1; omega)
  · unfold kidsFp
    rw [List.flatMap_append, List.nodup_append]
    refine ⟨h.nodup, by simpa using h2, fun a ha b hb => ?_⟩
    simp at hb
    have := (h.lt a ha).2.1
    have := (h3 b hb).1
    omega
  · unfold kidsFp at hb
    rw [List.flatMap_append, List.mem_append] at hb
    rcases hb with hb | hb
    · have := hk.lt b hb
      refine ⟨this.1, Nat.lt_of_lt_of_le this.2.1 hg.size, fun e => ?_⟩
      rcases hat with h4 | h4
      · exact this.2.2 (h4 ▸ e)
      · rw [h4] at e; injection e with e; omega
    · simp at hb
      have := h3 b hb
      refine ⟨by omega, Nat.lt_of_lt_of_le this.2 hg.size, fun e => ?_⟩
      rcases hat with h4 | h4
      · have := hown b (h4 ▸ e); omega
      · rw [h4] at e; injection e with e; omega

theorem ndsFp_of {W : World} {g : Nat} : ∀ (l : List Kid) (k : Nat), (∀ j x, l[j]? = some x → ∀ i, i < 10 → W.cell? ⟨g, (k + j) * 10 + i, none⟩ = (nodeC x.1.h x.2.1)[i]?) → (∀ x ∈ l, NdFp W x.1 x.2.1 x.2.2) → NdsFp W (l.map (·.1)) g k (kidsFp l)
  | [], _, _, _ => by unfold NdsFp; rfl
  | x :: l, k, hc, hk => by
    rw [List.map_cons]
    unfold NdsFp
    refine ⟨x.2.2, kidsFp l, x.2.1, by simp [kidsFp], fun i hi => hc 0 x rfl i hi, hk x (by simp), ndsFp_of l (k + 1) (fun j y hj i hi => ?_) (fun y hy => hk y (by simp [hy]))⟩
    rw [show k + 1 + j = k + (j + 1) by omega]
    exact hc (j + 1) y (by simpa using hj) i hi
/-- The list done: the tree with this head. -/
theorem LstFp.node {W : World} {B : Nat} {e : TypeId} {v : Value} {l : List Kid} (h : LstFp W B e v l) (hd : Hd) : NdNew B W (.mk hd (l.map (·.1))) v := by
  rcases (show OwnR W B e 10 v (kidsRow l) by simpa using h.own).slice with ⟨rfl, h0⟩ | ⟨g, cap, cur, rfl, hg, hb, hc, _⟩
  · have : l = [] := by cases l with
      | nil => rfl
      | cons => simp [kidsRow] at h0
    subst this
    exact NdNew.nil _ _ _ _ _
  · refine ⟨g :: kidsFp l, ?_, ?_, fun b hm => ?_⟩
    · unfold NdFp
      refine .inr ⟨g, cap, kidsFp l, by simp [kidsRow], rfl, ⟨⟨_, _, hb⟩, by simpa [kidsRow] using hc⟩, ndsFp_of l 0 (fun j x hj i hi => ?_) h.kid⟩
      rw [Nat.zero_add]
      exact (show OwnR W B e 10 _ (kidsRow l) by simpa using h.own).cell j _ (by simp [kidsRow, hj]) i hi
    · rw [List.nodup_cons]
      exact ⟨fun hm => (h.lt g hm).2.2 rfl, h.nodup⟩
    · rcases List.mem_cons.1 hm with rfl | hm
      · exact ⟨hg, hb.lt⟩
      · exact ⟨(h.lt b hm).1, (h.lt b hm).2.1⟩
/-- The list as a list of trees that can be read. -/
theorem LstFp.nds {W : World} {B : Nat} {e : TypeId} {v : Value} {l : List Kid} (h : LstFp W B e v l) : NdOk W (.mk ⟨0, fun _ => false, 0, 0, 0, false⟩ (l.map (·.1))) v := (h.node _).ok

end Go.Proofs.YtgfknlkpdiejgaaDoor
