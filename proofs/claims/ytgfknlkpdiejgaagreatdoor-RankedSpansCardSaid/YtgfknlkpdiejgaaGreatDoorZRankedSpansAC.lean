/- Trees that the program made: each list in a block of its own. No program. Rows whose elements take several cells, made by the call: read, appended to, kept. No condition. Trees that a call makes, all of whose lists lie in blocks of their own above some block; a list of such trees under way. No program. Laws of the walk for nodes taken whole: box, zero, load, store, literal list, append, return. No condition. -/
import Derived.Test.YtgfknlkpdiejgaaGreatDoorZRankedSpansAA
import Derived.Test.YtgfknlkpdiejgaaGreatDoorZRankedSpansAB
import Derived.Laws.OwnMore
import Derived.Laws.IdiomCopy
import Derived.Deep.MidRow
import Derived.Deep.WholeRow
import Derived.Great.BuildSlice
import Derived.Test.YtgfknlkpdiejgaaGreatDoorProg
namespace Go.Proofs.YtgfknlkpdiejgaaGreatDoor
open Go Go.RowKit

mutual
/-- The tree lies in the blocks fp: its list in the first, the lists below it in the others. -/
def NdFp (W : World) : Nd → Value → List Nat → Prop
  | .mk _ subs, sv, fp => (subs = [] ∧ (∃ A c, sv = .slice A 0 c) ∧ fp = []) ∨ (∃ g c fps, sv = .slice (some ⟨g, 0, none⟩) subs.length c ∧ fp = g :: fps ∧ ((∃ t cur, Blk W g t cur) ∧ subs.length ≤ c) ∧ NdsFp W subs g 0 fps)
def NdsFp (W : World) : List Nd → Nat → Nat → List Nat → Prop
  | [], _, _, fps => fps = []
  | n :: r, g, k, fps => ∃ f1 f2 sv, fps = f1 ++ f2 ∧ (∀ i, i < 10 → W.cell? ⟨g, k * 10 + i, none⟩ = (nodeC n.h sv)[i]?) ∧ NdFp W n sv f1 ∧ NdsFp W r g (k + 1) f2
end
mutual
theorem NdFp.ok {W : World} : ∀ {n : Nd} {sv : Value} {fp : List Nat}, NdFp W n sv fp → NdOk W n sv
  | .mk _ subs, sv, fp, h => by
    unfold NdFp at h
    unfold NdOk
    rcases h with ⟨rfl, ⟨A, c, rfl⟩, _⟩ | ⟨g, c, fps, rfl, _, _, h⟩
    · exact ⟨A, c, rfl, trivial⟩
    · exact ⟨_, c, rfl, NdsFp.ok h⟩
theorem NdsFp.ok {W : World} : ∀ {l : List Nd} {g k : Nat} {fps : List Nat}, NdsFp W l g k fps → NdsOk W l (some ⟨g, 0, none⟩) k
  | [], _, _, _, _ => trivial
  | n :: r, g, k, fps, h => by
    unfold NdsFp at h
    obtain ⟨f1, f2, sv, _, h1, h2, h3⟩ := h
    exact ⟨⟨g, 0, sv, rfl, fun i hi => by rw [Nat.zero_add]; exact h1 i hi, h2.ok⟩, h3.ok⟩
end
/-- Block g is the same in both worlds. -/
def SameAt (W W' : World) (g : Nat) : Prop := W'.heap[g]? = W.heap[g]?
theorem sameAt_of_block {W W' : World} {g : Nat} (h : W'.heap[g]? = W.heap[g]?) : SameAt W W' g := h
theorem SameAt.cell {W W' : World} {g : Nat} (h : SameAt W W' g) (i : Nat) : W'.cell? ⟨g, i, none⟩ = W.cell? ⟨g, i, none⟩ := World.cell?_of_block (a := ⟨g, i, none⟩) h
mutual
theorem NdFp.keep {W W' : World} : ∀ {n : Nd} {sv : Value} {fp : List Nat}, NdFp W n sv fp → (∀ b ∈ fp, SameAt W W' b) → NdFp W' n sv fp
  | .mk _ subs, sv, fp, h, hs => by
    unfold NdFp at h ⊢
    rcases h with h | ⟨g, c, fps, rfl, rfl, ⟨⟨t, cur, hb⟩, hcc⟩, h⟩
    · exact .inl h
    · exact .inr ⟨g, c, fps, rfl, rfl, ⟨⟨t, cur, (hs g (by simp)).trans hb⟩, hcc⟩, h.keep (hs g (by simp)) (fun b hb => hs b (by simp [hb]))⟩
theorem NdsFp.keep {W W' : World} : ∀ {l : List Nd} {g k : Nat} {fps : List Nat}, NdsFp W l g k fps → SameAt W W' g → (∀ b ∈ fps, SameAt W W' b) → NdsFp W' l g k fps
  | [], _, _, _, h, _, _ => h
  | n :: r, g, k, fps, h, hg, hs => by
    unfold NdsFp at h ⊢
    obtain ⟨f1, f2, sv, rfl, h1, h2, h3⟩ := h
    exact ⟨f1, f2, sv, rfl, fun i hi => (hg.cell _).trans (h1 i hi), h2.keep (fun b hb => hs b (by simp [hb])), h3.keep hg (fun b hb => hs b (by simp [hb]))⟩
end
theorem NdFp.ext {W W' : World} {n : Nd} {sv : Value} {fp : List Nat} (h : NdFp W n sv fp) (hx : Ext W W') (hb : ∀ b ∈ fp, b < W.heap.size) : NdFp W' n sv fp := h.keep fun b hm => sameAt_of_block (Below.block hx b (hb b hm))

end Go.Proofs.YtgfknlkpdiejgaaGreatDoor

namespace Go.Proofs.YtgfknlkpdiejgaaGreatDoor
open Go.RowKit

/-- All elements take k cells. -/
def Wide (k : Nat) (rows : List (List Value)) : Prop := ∀ r ∈ rows, r.length = k
theorem flat_len {k : Nat} : ∀ {rows : List (List Value)}, Wide k rows → rows.flatten.length = rows.length * k
  | [], _ => by simp
  | r :: rows, h => by
    rw [List.flatten_cons, List.length_append, flat_len (fun x hx => h x (by simp [hx])), h r (by simp), List.length_cons, Nat.add_mul, Nat.one_mul, Nat.add_comm]
theorem flat_get {k : Nat} : ∀ {rows : List (List Value)}, Wide k rows → ∀ j i r, rows[j]? = some r → i < k → rows.flatten[j * k + i]? = r[i]?
  | [], _, j, i, r, hj, _ => by simp at hj
  | a :: rows, h, 0, i, r, hj, hi => by
    simp only [List.getElem?_cons_zero, Option.some.injEq] at hj
    subst hj
    rw [List.flatten_cons, Nat.zero_mul, Nat.zero_add, List.getElem?_append_left (by rw [h a (by simp)]; exact hi)]
  | a :: rows, h, j + 1, i, r, hj, hi => by
    have ha := h a (by simp)
    rw [List.flatten_cons, List.getElem?_append_right (by rw [ha, Nat.add_mul]; omega), ha]
    have e : (j + 1) * k + i - k = j * k + i := by rw [Nat.add_mul]; omega
    rw [e]
    exact flat_get (fun x hx => h x (by simp [hx])) j i r (by simpa using hj) hi

/-- A row that the call made, of elements of k cells. -/
def OwnR (w : World) (B : Nat) (e : TypeId) (k : Nat) (v : Value) (rows : List (List Value)) : Prop := w.ownsRow B e k v rows.length rows.flatten ∧ Wide k rows

section
variable {w w' : World} {B B' k : Nat} {e e' : TypeId} {v : Value} {rows : List (List Value)} {F : Nat → Prop}
theorem OwnR.nil (w : World) (B : Nat) (e : TypeId) (k : Nat) : OwnR w B e k (.slice none 0 0) [] := ⟨World.ownsRow_nil _ _ _ _, fun _ h => by cases h⟩
theorem OwnR.slice (h : OwnR w B e k v rows) :
    (v = .slice none 0 0 ∧ rows = []) ∨ ∃ g cap cur, v = .slice (some ⟨g, 0, none⟩) rows.length cap ∧ B ≤ g ∧ Blk w g e cur ∧ rows.length ≤ cap ∧ cap ≤ maxLen ∧ cur.size = cap * k := by
  rcases h.1.2 with ⟨h0, h1⟩ | ⟨g, cap, cur, hv, hg, hh, hnc, hm, hs, _⟩
  · exact .inl ⟨h0, List.eq_nil_of_length_eq_zero h1⟩
  · exact .inr ⟨g, cap, cur, hv, hg, hh, hnc, hm, hs⟩
theorem OwnR.keeps (h : OwnR w B e k v rows) (hk : Keeps F w w') (hv : ∀ i, v.ownBlock = some i → ¬ F i) : OwnR w' B e k v rows := by
  obtain ⟨⟨h1, h2⟩, h3⟩ := h
  refine ⟨⟨h1, ?_⟩, h3⟩
  rcases h2 with h2 | ⟨g, cap, cur, rfl, hg, hh, r⟩
  · exact .inl h2
  · exact .inr ⟨g, cap, cur, rfl, hg, Blk.keeps (t := e) (cs := cur) hh hk (hv g rfl), r⟩
theorem OwnR.ext (h : OwnR w B e k v rows) (hx : Ext w w') : OwnR w' B e k v rows := h.keeps (F := fun _ => False) (Keeps.of_ext hx) (fun _ _ hf => hf)
theorem OwnR.mono (h : OwnR w B e k v rows) (hb : B' ≤ B) : OwnR w B' e k v rows := by
  obtain ⟨⟨h1, h2⟩, h3⟩ := h
  refine ⟨⟨h1, ?_⟩, h3⟩
  rcases h2 with h2 | ⟨g, cap, cur, hv, hg, r⟩
  · exact .inl h2
  · exact .inr ⟨g, cap, cur, hv, by omega, r⟩
theorem OwnR.own (h : OwnR w B e k v rows) : ∀ i, v.ownBlock = some i → B ≤ i ∧ i < w.heap.size := fun i hi => h.1.lt i hi
theorem OwnR.shape (h : OwnR w B e k v rows) : ∃ A c, v = .slice A rows.length c ∧ rows.length ≤ c := by
  rcases h.slice with ⟨rfl, rfl⟩ | ⟨g, cap, cur, rfl, _, _, hc, _⟩
  · exact ⟨none, 0, rfl, Nat.le_refl _⟩
  · exact ⟨_, _, rfl, hc⟩
theorem OwnR.cell {g n cap : Nat} (h : OwnR w B e k (.slice (some ⟨g, 0, none⟩) n cap) rows) (j : Nat) (r : List Value) (hj : rows[j]? = some r) (i : Nat) (hi : i < k) :
    w.cell? ⟨g, j * k + i, none⟩ = r[i]? := by
  have hr : r.length = k := h.2 r (List.mem_of_getElem? hj)
  have e1 := flat_get h.2 j i r hj hi
  rw [List.getElem?_eq_getElem (show i < r.length by omega)] at e1
  have := World.ownsRow.cells (v := .slice (some ⟨g, 0, none⟩) n cap) (n := rows.length) h.1 (g := g) rfl _ _ e1
  have ea : (⟨g, 0, none⟩ : Addr).add (j * k + i) = ⟨g, j * k + i, none⟩ := by unfold Addr.add; split <;> simp_all
  rw [ea] at this
  rw [this, List.getElem?_eq_getElem (show i < r.length by omega)]
theorem OwnR.form (h : OwnR w B e k v rows) (hn : 0 < rows.length) : ∃ g cap, v = .slice (some ⟨g, 0, none⟩) rows.length cap ∧ B ≤ g ∧ g < w.heap.size ∧ rows.length ≤ cap := by
  rcases h.slice with ⟨_, rfl⟩ | ⟨g, cap, cur, rfl, hg, hb, hc, _⟩
  · exact absurd hn (Nat.lt_irrefl 0)
  · exact ⟨g, cap, rfl, hg, hb.lt, hc⟩
theorem OwnR.len (h : OwnR w B e k v rows) : v = .slice none 0 0 → rows.length = 0 := fun hv => by
  rcases h.slice with ⟨_, rfl⟩ | ⟨g, cap, cur, rfl, _⟩
  · rfl
  · cases hv
end

/-- 'v = append(v, x)' where the call itself made v. -/
theorem wpList_appR {P : Program} {w : World} {ops : Array Oper} {rest : List Oper} {o : Oper} {a : Act} {Q : Exit → Act → World → Prop} (hgd : o.guard = none) (s x : Operand) (t : TypeId)
    (ho : o.op = .call { callee := .builtin .append, args := #[s, x], argTypes := #[t, t] })
    (B : Nat) (e : TypeId) (z : Value) (k bytes : Nat) (ht : P.underlying t = some (.slice e)) (hi : (P.info? e).map (fun i => (i.zero, i.size, i.bytes)) = some (some z, k, bytes)) (hzs : z.cells.size = k) (hk : 0 < k)
    (v : Value) (rows : List (List Value)) (hs : a.eval s = v) (hown : OwnR w B e k v rows)
    (g c : Nat) (r : List Value) (hr : r.length = k) (hx : a.eval x = .slice (some ⟨g, 0, none⟩) 1 c) (hc : ∀ i, i < k → w.cell? ⟨g, i, none⟩ = r[i]?) (h1 : ∀ u ∈ r, u.oneCell' = true)
    (hb : (rows.length + 1) * bytes ≤ 140737488355328) (hl : rows.length + 1 ≤ 9223372036854775807) (hbase : B ≤ w.heap.size)
    (h : ∀ v' w', OwnR w' B e k v' (rows ++ [r]) → w.grownBy w' v.ownBlock → (v'.ownBlock = v.ownBlock ∨ v'.ownBlock = some w.heap.size) → wpList P ops Q rest (a.put o.dst v') w') : wpList P ops Q (o :: rest) a w := by
  obtain ⟨i, hi0, hz0, hz1, hz2⟩ := info_parts hi
  refine wpList_append_own_at w hgd s x t ho B e i z k bytes ht hi0 hz0 hz1 hz2 hzs hk v rows.length rows.flatten hs hown.1 ⟨g, 0, none⟩ 1 c r hx (by omega) ?_ h1 (by simp only [maxLen]; omega) hb hbase ?_
  · intro j u hj
    have ea : (⟨g, 0, none⟩ : Addr).add j = ⟨g, j, none⟩ := by unfold Addr.add; split <;> simp_all
    rw [ea, hc j (by have := (List.getElem?_eq_some_iff.1 hj).1; omega), hj]
  · intro v' w' ho' hg _ hat
    refine h v' w' ⟨by simpa using ho', fun y hy => ?_⟩ hg hat
    rcases List.mem_append.1 hy with hy | hy
    · exact hown.2 y hy
    · simp only [List.mem_singleton] at hy; subst hy; exact hr

theorem Ext.grown {w w1 w2 : World} {row : Option Nat} (h : Ext w w1) (hg : w1.grownBy w2 row) (hr : ∀ k, row = some k → w.heap.size ≤ k) : Ext w w2 :=
  ⟨hg.os.trans h.os, hg.tape.trans h.tape, hg.output.trans h.output, Nat.le_trans (Below.size h) hg.size, fun k hk => (hg.block k (Nat.lt_of_lt_of_le hk (Below.size h)) (fun e => by have := hr k e.symm; omega)).trans (Below.block h k hk)⟩


/-! ### stores into a row -/
def setL (xs : List Value) : Nat → List Value → List Value
  | _, [] => xs
  | o, v :: r => setL (xs.set o v) (o + 1) r
theorem setL_len : ∀ (vs : List Value) (o : Nat) (xs : List Value), (setL xs o vs).length = xs.length
  | [], _, _ => rfl
  | v :: r, o, xs => by rw [setL, setL_len r]; simp
theorem setL_get : ∀ (vs : List Value) (o : Nat) (xs : List Value) (i : Nat), o + vs.length ≤ xs.length → (setL xs o vs)[i]? = if o ≤ i ∧ i < o + vs.length then vs[i - o]? else xs[i]?
  | [], o, xs, i, _ => by rw [setL, if_neg (by simp)]
  | v :: r, o, xs, i, h => by
    simp only [List.length_cons] at h ⊢
    rw [setL, setL_get r (o + 1) (xs.set o v) i (by simp; omega)]
    by_cases h1 : o + 1 ≤ i ∧ i < o + 1 + r.length
    · rw [if_pos h1, if_pos (by omega), show i - o = (i - (o + 1)) + 1 by omega, List.getElem?_cons_succ]
    · rw [if_neg h1]
      by_cases h2 : i = o
      · subst h2
        rw [if_pos (by omega), Nat.sub_self, List.getElem?_cons_zero, List.getElem?_set_self (by omega)]
      · rw [if_neg (by omega), List.getElem?_set_ne (by omega)]
theorem wide_set {k : Nat} {rows : List (List Value)} (h : Wide k rows) (j : Nat) {r : List Value} (hr : r.length = k) : Wide k (rows.set j r) := fun x hx => by
  rcases List.mem_or_eq_of_mem_set hx with hx | rfl
  · exact h x hx
  · exact hr
theorem setL_row {k : Nat} {rows : List (List Value)} (h : Wide k rows) (hk : 0 < k) (j : Nat) (hj : j < rows.length) {r : List Value} (hr : r.length = k) : setL rows.flatten (j * k) r = (rows.set j r).flatten := by
  have hw := wide_set h j hr
  have hle : j * k + k ≤ rows.length * k := by rw [← Nat.succ_mul]; exact Nat.mul_le_mul_right k hj
  have hlen := flat_len h
  apply List.ext_getElem?
  intro i
  rw [setL_get _ _ _ _ (by omega)]
  rcases Nat.lt_or_ge i (rows.length * k) with hi | hi
  · have hd : i / k < rows.length := by rw [Nat.div_lt_iff_lt_mul hk]; exact hi
    have hm : i % k < k := Nat.mod_lt _ hk
    have e : i = i / k * k + i % k := by rw [Nat.mul_comm]; exact (Nat.div_add_mod i k).symm
    by_cases hij : i / k = j
    · have e2 : i = j * k + i % k := by rw [← hij]; exact e
      rw [if_pos (by omega), show i - j * k = i % k by omega]
      conv => rhs; rw [e2]
      rw [flat_get hw j (i % k) r (by rw [List.getElem?_set_self hj]) hm]
    · have hr2 : rows[i / k]? = some rows[i / k] := List.getElem?_eq_getElem hd
      rw [if_neg (fun hc => by
        have h1 : i / k < j + 1 := by rw [Nat.div_lt_iff_lt_mul hk, Nat.succ_mul]; omega
        have h2 : j ≤ i / k := by rw [Nat.le_div_iff_mul_le hk]; omega
        omega)]
      conv => lhs; rw [e]
      conv => rhs; rw [e]
      rw [flat_get h _ _ _ hr2 hm, flat_get hw (i / k) (i % k) rows[i / k] (by rw [List.getElem?_set_ne (fun e => hij e.symm), hr2]) hm]
  · have hlen2 := flat_len hw
    rw [List.length_set] at hlen2
    rw [if_neg (by omega), List.getElem?_eq_none (by omega), List.getElem?_eq_none (by omega)]
theorem own_setCells {B g n cap : Nat} {e : TypeId} {k : Nat} : ∀ (vs : List Value) (o : Nat) (w : World) (xs : List Value), w.ownsRow B e k (.slice (some ⟨g, 0, none⟩) n cap) n xs →
    (w.setCells g o vs).ownsRow B e k (.slice (some ⟨g, 0, none⟩) n cap) n (setL xs o vs) ∧ w.grownBy (w.setCells g o vs) (some g)
  | [], _, w, _, h => ⟨h, rfl, rfl, rfl, Nat.le_refl _, fun _ _ _ => rfl⟩
  | v :: r, o, w, xs, h => by
    obtain ⟨h1, h2⟩ := h.stored o v
    obtain ⟨h3, h4⟩ := own_setCells r (o + 1) _ _ h1
    exact ⟨h3, h2.trans h4⟩
theorem OwnR.store {w : World} {B g n cap : Nat} {e : TypeId} {k : Nat} {rows : List (List Value)} (h : OwnR w B e k (.slice (some ⟨g, 0, none⟩) n cap) rows) (hk : 0 < k) (j : Nat) (hj : j < rows.length) {r : List Value} (hr : r.length = k) :
    OwnR (w.setCells g (j * k) r) B e k (.slice (some ⟨g, 0, none⟩) n cap) (rows.set j r) ∧ w.grownBy (w.setCells g (j * k) r) (some g) := by
  have hn : n = rows.length := by
    rcases h.slice with ⟨h0, _⟩ | ⟨g', cap', cur, hv, _⟩
    · cases h0
    · simp only [Value.slice.injEq] at hv; exact hv.2.1
  subst hn
  obtain ⟨h1, h2⟩ := own_setCells r (j * k) w rows.flatten h.1
  rw [setL_row h.2 hk j hj hr] at h1
  exact ⟨⟨by rw [List.length_set]; exact h1, wide_set h.2 j hr⟩, h2⟩
/-- One cell of one element. -/
theorem OwnR.store1 {w : World} {B g n cap : Nat} {e : TypeId} {k : Nat} {rows : List (List Value)} (h : OwnR w B e k (.slice (some ⟨g, 0, none⟩) n cap) rows) (j : Nat) (r : List Value) (hj : rows[j]? = some r) (i : Nat) (hi : i < k) (u : Value) :
    OwnR (w.setCell ⟨g, j * k + i, none⟩ u) B e k (.slice (some ⟨g, 0, none⟩) n cap) (rows.set j (r.set i u)) ∧ w.grownBy (w.setCell ⟨g, j * k + i, none⟩ u) (some g) := by
  have hn : n = rows.length := by
    rcases h.slice with ⟨h0, _⟩ | ⟨g', cap', cur, hv, _⟩
    · cases h0
    · simp only [Value.slice.injEq] at hv; exact hv.2.1
  subst hn
  have hjl : j < rows.length := (List.getElem?_eq_some_iff.1 hj).1
  have hr : (r.set i u).length = k := by rw [List.length_set]; exact h.2 r (List.mem_of_getElem? hj)
  obtain ⟨h1, h2⟩ := h.1.stored (j * k + i) u
  have e1 : rows.flatten.set (j * k + i) u = (rows.set j (r.set i u)).flatten := by
    rw [← setL_row h.2 (by omega) j hjl hr]
    have hle : j * k + k ≤ rows.length * k := by rw [← Nat.succ_mul]; exact Nat.mul_le_mul_right k hjl
    have hlen := flat_len h.2
    apply List.ext_getElem?
    intro x
    rw [setL_get _ _ _ _ (by omega)]
    by_cases hx : j * k ≤ x ∧ x < j * k + k
    · rw [if_pos (by omega)]
      have e2 := flat_get h.2 j (x - j * k) r hj (by omega)
      rw [show j * k + (x - j * k) = x by omega] at e2
      rw [List.getElem?_set, List.getElem?_set, e2]
      by_cases hxi : j * k + i = x
      · rw [if_pos hxi, if_pos (by omega), if_pos (by omega), if_pos (by have := h.2 r (List.mem_of_getElem? hj); omega)]
      · rw [if_neg hxi, if_neg (by omega)]
    · rw [if_neg (by omega), List.getElem?_set_ne (by omega)]
  rw [e1] at h1
  exact ⟨⟨by rw [List.length_set]; exact h1, wide_set h.2 j hr⟩, h2⟩
theorem OwnR.frozen {w : World} {B g n cap : Nat} {e : TypeId} {k : Nat} {rows : List (List Value)} (h : OwnR w B e k (.slice (some ⟨g, 0, none⟩) n cap) rows) (i : Nat) : w.frozen? ⟨g, i, none⟩ = false := by
  rcases h.slice with ⟨h0, _⟩ | ⟨g', cap', cur, hv, _, hb, _⟩
  · cases h0
  · simp only [Value.slice.injEq, Option.some.injEq, Addr.mk.injEq, and_true] at hv
    rw [hv.1]
    exact hb.frozen i
theorem Keeps.of_grown {w w' : World} {row : Option Nat} (h : w.grownBy w' row) : Keeps (fun i => row = some i) w w' :=
  ⟨h.os, h.tape, h.output, h.size, fun k hk hf => h.block k hk (fun e => hf e.symm)⟩
/-- A list made with its full length, all zero. -/
theorem wpList_makeR {P : Program} {w : World} {ops : Array Oper} {rest : List Oper} {o : Oper} {a : Act} {Q : Exit → Act → World → Prop} (hgd : o.guard = none) (l c : Operand) (t : TypeId) (hop : o.op = Op.makeSlice t l c)
    (B : Nat) (e : TypeId) (z : List Value) (k bytes : Nat) (ht : P.underlying t = some (.slice e)) (hi : (P.info? e).map (fun i => (i.zero, i.size, i.bytes)) = some (some (.agg z.toArray), k, bytes)) (hzs : z.length = k) (hk : 0 < k)
    (n : Nat) (hl : a.eval l = .int .i64 n) (hc : a.eval c = .int .i64 n) (hb : bytes * n ≤ 140737488355328) (hn : n ≤ 9223372036854775807) (hbase : B ≤ w.heap.size)
    (h : ∀ g w', OwnR w' B e k (.slice (some ⟨g, 0, none⟩) n n) (List.replicate n z) → Ext w w' → w.heap.size = g → g < w'.heap.size → wpList P ops Q rest (a.put o.dst (.slice (some ⟨g, 0, none⟩) n n)) w') : wpList P ops Q (o :: rest) a w := by
  obtain ⟨i, hi0, hz0, hz1, hz2⟩ := info_parts hi
  refine wpList_make_full w hgd l c t hop B e i _ k ht hi0 hz0 hz1 .i64 .i64 n n n hl hc rfl rfl (by rw [hz2]; omega) (by simp only [maxLen]; omega) hbase ?_
  intro w' ho hg
  have hw : Wide k (List.replicate n z) := fun r hr => by rw [List.eq_of_mem_replicate hr]; exact hzs
  have e1 : (madeCells (Value.cells (.agg z.toArray)) (n * k)).toList = (List.replicate n z).flatten := by
    have hlen := flat_len hw
    rw [List.length_replicate] at hlen
    apply List.ext_getElem?
    intro x
    rcases Nat.lt_or_ge x (n * k) with hx | hx
    · have hd : x / k < n := by rw [Nat.div_lt_iff_lt_mul hk]; exact hx
      have hm : x % k < k := Nat.mod_lt _ hk
      have ex : x = x / k * k + x % k := by rw [Nat.mul_comm]; exact (Nat.div_add_mod x k).symm
      conv => rhs; rw [ex]
      rw [flat_get hw (x / k) (x % k) z (by rw [List.getElem?_replicate, if_pos hd]) hm]
      simp [madeCells, Value.cells, hx, hzs, hm]
    · rw [List.getElem?_eq_none (by simp [size_madeCells]; omega), List.getElem?_eq_none (by omega)]
  rw [e1] at ho
  exact h _ w' ⟨by rw [List.length_replicate]; exact ho, hw⟩ ((Ext.refl w).grown hg (fun _ hk => by cases hk)) rfl (by have := ho.lt w.heap.size rfl; omega)

/-- A list made with room only. -/
theorem wpList_makeR0 {P : Program} {w : World} {ops : Array Oper} {rest : List Oper} {o : Oper} {a : Act} {Q : Exit → Act → World → Prop} (hgd : o.guard = none) (l c : Operand) (t : TypeId) (hop : o.op = Op.makeSlice t l c)
    (B : Nat) (e : TypeId) (z : Value) (k bytes : Nat) (ht : P.underlying t = some (.slice e)) (hi : (P.info? e).map (fun i => (i.zero, i.size, i.bytes)) = some (some z, k, bytes))
    (n : Nat) (hl : a.eval l = .int .i64 0) (hc : a.eval c = .int .i64 n) (hb : bytes * n ≤ 140737488355328) (hn : n ≤ 9223372036854775807) (hbase : B ≤ w.heap.size)
    (h : ∀ g w', OwnR w' B e k (.slice (some ⟨g, 0, none⟩) 0 n) [] → Ext w w' → w.heap.size ≤ g → g < w'.heap.size → wpList P ops Q rest (a.put o.dst (.slice (some ⟨g, 0, none⟩) 0 n)) w') : wpList P ops Q (o :: rest) a w := by
  obtain ⟨i, hi0, hz0, hz1, hz2⟩ := info_parts hi
  refine wpList_make_own w hgd l c t hop B e i _ k ht hi0 hz0 hz1 .i64 .i64 n n hl hc rfl (by rw [hz2]; omega) (by simp only [maxLen]; omega) hbase ?_
  intro w' ho hg
  exact h _ w' ⟨ho, fun _ h => by cases h⟩ ((Ext.refl w).grown hg (fun _ hk => by cases hk)) (Nat.le_refl _) (by have := ho.lt w.heap.size rfl; omega)

end Go.Proofs.YtgfknlkpdiejgaaGreatDoor

namespace Go.Proofs.YtgfknlkpdiejgaaGreatDoor
open Go Go.RowKit

theorem nodeC_len (h : Hd) (sv : Value) : (nodeC h sv).length = 10 := rfl
/-- The tree lies in blocks from B on, each list in one of its own. -/
def NdNew (B : Nat) (W : World) (n : Nd) (sv : Value) : Prop := ∃ fp, NdFp W n sv fp ∧ fp.Nodup ∧ ∀ b ∈ fp, B ≤ b ∧ b < W.heap.size
theorem NdNew.ok {B : Nat} {W : World} {n : Nd} {sv : Value} (h : NdNew B W n sv) : NdOk W n sv := by
  obtain ⟨fp, h, _⟩ := h
  exact h.ok
theorem NdNew.ext {B : Nat} {W W' : World} {n : Nd} {sv : Value} (h : NdNew B W n sv) (hx : Ext W W') : NdNew B W' n sv := by
  obtain ⟨fp, h1, h2, h3⟩ := h
  exact ⟨fp, h1.ext hx (fun b hb => (h3 b hb).2), h2, fun b hb => ⟨(h3 b hb).1, Nat.lt_of_lt_of_le (h3 b hb).2 hx.size⟩⟩
theorem NdNew.mono {B B' : Nat} {W : World} {n : Nd} {sv : Value} (h : NdNew B W n sv) (hb : B' ≤ B) : NdNew B' W n sv := by
  obtain ⟨fp, h1, h2, h3⟩ := h
  exact ⟨fp, h1, h2, fun b hm => ⟨Nat.le_trans hb (h3 b hm).1, (h3 b hm).2⟩⟩
theorem NdNew.nil (B : Nat) (W : World) (h : Hd) (A : Option Addr) (c : Nat) : NdNew B W (.mk h []) (.slice A 0 c) :=
  ⟨[], by unfold NdFp; exact .inl ⟨rfl, ⟨A, c, rfl⟩, rfl⟩, List.nodup_nil, fun b hb => by cases hb⟩
/-- The head's cells do not lie in the tree's lists. -/
theorem NdNew.head {B : Nat} {W : World} {h h' : Hd} {s : List Nd} {sv : Value} (hn : NdNew B W (.mk h s) sv) : NdNew B W (.mk h' s) sv := by
  obtain ⟨fp, h1, h2⟩ := hn
  exact ⟨fp, by unfold NdFp at h1 ⊢; exact h1, h2⟩

/-- Trees of a list under way: each with the value of its list and its blocks. -/
abbrev Kid := Nd × Value × List Nat
def kidsFp (l : List Kid) : List Nat := l.flatMap (·.2.2)
def kidsRow (l : List Kid) : List (List Value) := l.map fun x => nodeC x.1.h x.2.1
structure LstZ (W : World) (B : Nat) (e : TypeId) (v : Value) (l : List Kid) (zs : List (List Value)) : Prop where
  own : OwnR W B e 10 v (kidsRow l ++ zs)
  kid : ∀ x ∈ l, NdFp W x.1 x.2.1 x.2.2
  nodup : (kidsFp l).Nodup
  lt : ∀ b ∈ kidsFp l, B ≤ b ∧ b < W.heap.size ∧ v.ownBlock ≠ some b
abbrev LstFp (W : World) (B : Nat) (e : TypeId) (v : Value) (l : List Kid) : Prop := LstZ W B e v l []

theorem LstFp.nil (W : World) (B : Nat) (e : TypeId) : LstFp W B e (.slice none 0 0) [] :=
  ⟨OwnR.nil _ _ _ _, (fun _ h => by cases h), List.nodup_nil, (fun _ h => by cases h)⟩
theorem LstZ.ext {W W' : World} {B : Nat} {e : TypeId} {v : Value} {l : List Kid} {zs : List (List Value)} (h : LstZ W B e v l zs) (hx : Ext W W') : LstZ W' B e v l zs :=
  ⟨h.own.ext hx, fun x hm => (h.kid x hm).ext hx (fun b hb => (h.lt b (List.mem_flatMap.2 ⟨x, hm, hb⟩)).2.1), h.nodup, fun b hb => ⟨(h.lt b hb).1, Nat.lt_of_lt_of_le (h.lt b hb).2.1 hx.size, (h.lt b hb).2.2⟩⟩
theorem LstFp.len {W : World} {B : Nat} {e : TypeId} {v : Value} {l : List Kid} (h : LstFp W B e v l) : ∃ A c, v = .slice A l.length c ∧ l.length ≤ c := by
  have := h.own.shape
  simpa [kidsRow] using this
theorem LstZ.snoc {W W1 W2 : World} {B : Nat} {e : TypeId} {v v' : Value} {l : List Kid} {zs zs' : List (List Value)} {n : Nd} {sv : Value} (h : LstZ W B e v l zs) (hx : Ext W W1) (hB : B ≤ W.heap.size) (hn : NdNew W.heap.size W1 n sv)
    (ho : OwnR W2 B e 10 v' (kidsRow l ++ nodeC n.h sv :: zs')) (hg : W1.grownBy W2 v.ownBlock) (hat : v'.ownBlock = v.ownBlock ∨ v'.ownBlock = some W1.heap.size) : ∃ f, LstZ W2 B e v' (l ++ [(n, sv, f)]) zs' := by
  obtain ⟨f, h1, h2, h3⟩ := hn
  have hk := h.ext hx
  have hown : ∀ i, v.ownBlock = some i → i < W.heap.size := fun i hi => (h.own.own i hi).2
  have hsz := hx.size
  have same : ∀ b, b < W1.heap.size → v.ownBlock ≠ some b → SameAt W1 W2 b := fun b hb hne => sameAt_of_block (hg.block b hb (fun e => hne e.symm))
  refine ⟨f, by simpa [kidsRow] using ho, fun x hm => ?_, ?_, fun b hb => ?_⟩
  · rcases List.mem_append.1 hm with hm | hm
    · exact (hk.kid x hm).keep fun b hb => same b (hk.lt b (List.mem_flatMap.2 ⟨x, hm, hb⟩)).2.1 (hk.lt b (List.mem_flatMap.2 ⟨x, hm, hb⟩)).2.2
    · simp only [List.mem_singleton] at hm
      subst hm
      exact h1.keep fun b hb => same b (h3 b hb).2 (fun e => by have := hown b e; have := (h3 b hb).1; omega)
  · unfold kidsFp
    rw [List.flatMap_append, List.nodup_append]
    refine ⟨h.nodup, by simpa using h2, fun a ha b hb => ?_⟩
    simp at hb
    have := (h.lt a ha).2.1
    have := (h3 b hb).1
    omega
  · unfold kidsFp at hb
    rw [List.flatMap_append, List.mem_append] at hb
    rcases hb with hb | hb
    · have := hk.lt b hb
      refine ⟨this.1, Nat.lt_of_lt_of_le this.2.1 hg.size, fun e => ?_⟩
      rcases hat with h4 | h4
      · exact this.2.2 (h4 ▸ e)
      · rw [h4] at e; injection e with e; omega
    · simp at hb
      have := h3 b hb
      refine ⟨by omega, Nat.lt_of_lt_of_le this.2 hg.size, fun e => ?_⟩
      rcases hat with h4 | h4
      · have := hown b (h4 ▸ e); omega
      · rw [h4] at e; injection e with e; omega

theorem ndsFp_of {W : World} {g : Nat} : ∀ (l : List Kid) (k : Nat), (∀ j x, l[j]? = some x → ∀ i, i < 10 → W.cell? ⟨g, (k + j) * 10 + i, none⟩ = (nodeC x.1.h x.2.1)[i]?) → (∀ x ∈ l, NdFp W x.1 x.2.1 x.2.2) → NdsFp W (l.map (·.1)) g k (kidsFp l)
  | [], _, _, _ => by unfold NdsFp; rfl
  | x :: l, k, hc, hk => by
    rw [List.map_cons]
    unfold NdsFp
    refine ⟨x.2.2, kidsFp l, x.2.1, by simp [kidsFp], fun i hi => hc 0 x rfl i hi, hk x (by simp), ndsFp_of l (k + 1) (fun j y hj i hi => ?_) (fun y hy => hk y (by simp [hy]))⟩
    rw [show k + 1 + j = k + (j + 1) by omega]
    exact hc (j + 1) y (by simpa using hj) i hi
/-- The list done: the tree with this head. -/
theorem LstFp.node {W : World} {B : Nat} {e : TypeId} {v : Value} {l : List Kid} (h : LstFp W B e v l) (hd : Hd) : NdNew B W (.mk hd (l.map (·.1))) v := by
  rcases (show OwnR W B e 10 v (kidsRow l) by simpa using h.own).slice with ⟨rfl, h0⟩ | ⟨g, cap, cur, rfl, hg, hb, hc, _⟩
  · have : l = [] := by cases l with
      | nil => rfl
      | cons => simp [kidsRow] at h0
    subst this
    exact NdNew.nil _ _ _ _ _
  · refine ⟨g :: kidsFp l, ?_, ?_, fun b hm => ?_⟩
    · unfold NdFp
      refine .inr ⟨g, cap, kidsFp l, by simp [kidsRow], rfl, ⟨⟨_, _, hb⟩, by simpa [kidsRow] using hc⟩, ndsFp_of l 0 (fun j x hj i hi => ?_) h.kid⟩
      rw [Nat.zero_add]
      exact (show OwnR W B e 10 _ (kidsRow l) by simpa using h.own).cell j _ (by simp [kidsRow, hj]) i hi
    · rw [List.nodup_cons]
      exact ⟨fun hm => (h.lt g hm).2.2 rfl, h.nodup⟩
    · rcases List.mem_cons.1 hm with rfl | hm
      · exact ⟨hg, hb.lt⟩
      · exact ⟨(h.lt b hm).1, (h.lt b hm).2.1⟩
/-- The list as a list of trees that can be read. -/
theorem LstFp.nds {W : World} {B : Nat} {e : TypeId} {v : Value} {l : List Kid} (h : LstFp W B e v l) : NdOk W (.mk ⟨0, fun _ => false, 0, 0, 0, false⟩ (l.map (·.1))) v := (h.node _).ok

end Go.Proofs.YtgfknlkpdiejgaaGreatDoor

namespace Go.Proofs.YtgfknlkpdiejgaaGreatDoor
open Go Go.RowKit

def nodeA (h : Hd) (sv : Value) : Array Value := (nodeC h sv).toArray
theorem nodeV_eq (h : Hd) (sv : Value) : nodeV h sv = .agg (nodeA h sv) := rfl
theorem nodeA_size (h : Hd) (sv : Value) : (nodeA h sv).size = 10 := rfl
theorem nodeA_get (h : Hd) (sv : Value) (i : Nat) : (nodeA h sv)[i]? = (nodeC h sv)[i]? := by simp [nodeA]
theorem info_sl : (Tryz.prog.info? 25).map (·.size) = some 1 := by kernel_rfl
theorem info_nd : (Tryz.prog.info? 27).map (·.size) = some 10 := by kernel_rfl
theorem info_ndA (h : Hd) (sv : Value) : (Tryz.prog.info? 27).map (·.size) = some (nodeA h sv).size := info_nd
def isSl (v : Value) : Prop := ∃ A n c, v = .slice A n c
theorem isSl.one {v : Value} (h : isSl v) : v.oneCell' = true := by obtain ⟨A, n, c, rfl⟩ := h; rfl
theorem isSl_mk (A : Option Addr) (n c : Nat) : isSl (.slice A n c) := ⟨A, n, c, rfl⟩
theorem NdOk.sl {W : World} {n : Nd} {sv : Value} (h : NdOk W n sv) : isSl sv := by
  obtain ⟨A, c, rfl⟩ := h.shape
  exact ⟨_, _, _, rfl⟩
theorem nodeC_one {h : Hd} {sv : Value} (hs : isSl sv) : ∀ u ∈ nodeC h sv, u.oneCell' = true := by
  intro u hu
  simp only [nodeC, List.mem_cons, List.not_mem_nil, or_false] at hu
  rcases hu with rfl | rfl | rfl | rfl | rfl | rfl | rfl | rfl | rfl | rfl
  all_goals first | rfl | exact hs.one
theorem nodeA_one {h : Hd} {sv : Value} (hs : isSl sv) : (nodeA h sv).all (·.oneCell') = true := by
  rw [Array.all_eq_true_iff_forall_mem]
  intro x hx
  exact nodeC_one (h := h) hs x (by simpa [nodeA] using hx)

/-- A node's ten cells lie here. -/
def NdAt (w : World) (g o : Nat) (h : Hd) (sv : Value) : Prop := ∀ i, i < 10 → w.cell? ⟨g, o + i, none⟩ = (nodeC h sv)[i]?
theorem NdAt.ext {w w' : World} {g o : Nat} {h : Hd} {sv : Value} (hn : NdAt w g o h sv) (hx : Ext w w') : NdAt w' g o h sv := fun i hi => by
  have hs : (nodeC h sv)[i]? = some (nodeC h sv)[i] := List.getElem?_eq_getElem (by simpa [nodeC] using hi)
  have := hn i hi
  rw [hs] at this ⊢
  exact hx.cell this
theorem NdAt.keeps {w w' : World} {F : Nat → Prop} {g o : Nat} {h : Hd} {sv : Value} (hn : NdAt w g o h sv) (hk : Keeps F w w') (hg : ¬ F g) : NdAt w' g o h sv := fun i hi => by
  have hs : (nodeC h sv)[i]? = some (nodeC h sv)[i] := List.getElem?_eq_getElem (by simpa [nodeC] using hi)
  have := hn i hi
  rw [hs] at this ⊢
  exact cell_keeps this hk hg
theorem Blk.nd {w : World} {g : Nat} {t : TypeId} {h : Hd} {sv : Value} (hb : Blk w g t (nodeA h sv)) : NdAt w g 0 h sv := fun i _ => by
  rw [Nat.zero_add, hb.cell, nodeA_get]
theorem NdOk.get {W : World} {h : Hd} {subs : List Nd} {A : Option Addr} {n c : Nat} (hn : NdOk W (.mk h subs) (.slice A n c)) (k : Nat) (hk : k < subs.length) :
    ∃ g o sv, A = some ⟨g, o, none⟩ ∧ NdAt W g (o + k * 10) (subs[k]).h sv ∧ NdOk W subs[k] sv := by
  unfold NdOk at hn
  obtain ⟨A', c', e, hs⟩ := hn
  injection e with e1 e2 e3
  subst e1
  obtain ⟨g, o, sv, h1, h2, h3⟩ := hs.get k hk
  exact ⟨g, o, sv, h1, fun i hi => by have := h2 i hi; rwa [Nat.zero_add] at this, h3⟩
theorem NdOk.len {W : World} {h : Hd} {subs : List Nd} {A : Option Addr} {n c : Nat} (hn : NdOk W (.mk h subs) (.slice A n c)) : n = subs.length := by
  unfold NdOk at hn
  obtain ⟨A', c', e, hs⟩ := hn
  injection e

theorem Ext.keep1 {w0 w w1 : World} {g : Nat} (h : Ext w0 w) (k : Keeps (· = g) w w1) (hg : w0.heap.size ≤ g) : Ext w0 w1 := h.keeps k (fun i hi e => by omega)
theorem Blk.keep1 {w w1 : World} {g k : Nat} {t : TypeId} {cs : Array Value} (h : Blk w k t cs) (hk : Keeps (· = g) w w1) (hne : k ≠ g) : Blk w1 k t cs := h.keeps hk hne
theorem NdNew.keep1 {B : Nat} {w w1 : World} {g : Nat} {n : Nd} {sv : Value} (h : NdNew B w n sv) (k : Keeps (· = g) w w1) (hg : g < B) : NdNew B w1 n sv := by
  obtain ⟨fp, h1, h2, h3⟩ := h
  exact ⟨fp, h1.keep (fun b hb => sameAt_of_block (k.block b (h3 b hb).2 (fun e => by have := (h3 b hb).1; omega))), h2, fun b hb => ⟨(h3 b hb).1, Nat.lt_of_lt_of_le (h3 b hb).2 k.size⟩⟩
/-- A list of one new tree. -/
theorem NdNew.one {B : Nat} {w w1 : World} {n : Nd} {sv : Value} {g : Nat} {t : TypeId} (h : NdNew B w n sv) (hx : Ext w w1) (hg : Blk w1 g t (nodeA n.h sv)) (hge : w.heap.size ≤ g) (hB : B ≤ w.heap.size) (hd : Hd) (c : Nat) (hc1 : 1 ≤ c := by omega) : NdNew B w1 (.mk hd [n]) (.slice (some ⟨g, 0, none⟩) 1 c) := by
  obtain ⟨fp, h1, h2, h3⟩ := h
  refine ⟨g :: fp, ?_, List.nodup_cons.2 ⟨fun hm => by have := (h3 g hm).2; omega, h2⟩, fun b hb => ?_⟩
  · unfold NdFp
    refine .inr ⟨g, c, fp, rfl, rfl, ⟨⟨_, _, hg⟩, hc1⟩, ?_⟩
    unfold NdsFp
    refine ⟨fp, [], sv, by simp, fun i _ => by rw [Nat.zero_mul, Nat.zero_add, hg.cell, nodeA_get], h1.ext hx (fun b hb => (h3 b hb).2), by unfold NdsFp; rfl⟩
  · rcases List.mem_cons.1 hb with rfl | hb
    · exact ⟨by omega, hg.lt⟩
    · exact ⟨(h3 b hb).1, Nat.lt_of_lt_of_le (h3 b hb).2 hx.size⟩
theorem wd_no (i : Nat) : wd (fun _ => false) i = 0 := wd_none i
theorem node_lit (k n mn mx : Int) (b : Bool) (sv : Value) : Value.agg #[.int .i64 k, .int .u64 0, .int .u64 0, .int .u64 0, .int .u64 0, sv, .int .i64 n, .int .i64 mn, .int .i64 mx, .bool b] = nodeV ⟨k, fun _ => false, n, mn, mx, b⟩ sv := by
  unfold nodeV
  simp only [wd_no]
  rfl
/-- What a call that makes a tree answers. -/
def RetNd (w : World) (n : Nd) (r : Ending) (w' : World) : Prop := ∃ sv, r = .returned (nodeV n.h sv) ∧ NdNew w.heap.size w' n sv ∧ Ext w w'

section
variable {ops : Array Oper} {rest : List Oper} {o : Oper} {a : Act} {w : World} {Q : Exit → Act → World → Prop}
theorem run_storeVar_cell {P : Program} (w : World) (b o : Nat) (ty : TypeId) (v u : Value) (hc : w.cell? ⟨b, o, none⟩ = some u) (hf : w.frozen? ⟨b, o, none⟩ = false) (hi : (P.info? ty).map (·.size) = some 1) (h1 : v.oneCell' = true) :
    (storeVar ty ⟨b, o, none⟩ v).run P w = .ok () (w.setCell ⟨b, o, none⟩ v) := by
  have hst : (store ((⟨b, o, none⟩ : Addr).add 0) v).run P w = .ok () (w.setCell ⟨b, o, none⟩ v) := by
    rw [Addr.add_mid, Nat.add_zero, run_store P w _ v _ h1, hc]
    simp [hf]
  have hcs : v.cells = #[v] := by cases v <;> first | rfl | cases h1
  obtain ⟨i, hq, hs⟩ := Option.map_eq_some_iff.1 hi
  simp [storeVar, sizeOf, typeInfo, hq, hcs, hs, storeCells, hst]
/-- 'box' of a node. -/
theorem wpl_boxNd (hgd : o.guard = none) (x : Operand) (ho : o.op = .box 27 x) (h : Hd) (sv : Value) (hx : a.eval x = nodeV h sv)
    (hK : ∀ g w1, Blk w1 g 27 (nodeA h sv) → Ext w w1 → w.heap.size ≤ g → g < w1.heap.size → wpList Tryz.prog ops Q rest (a.put o.dst (.pointer (some ⟨g, 0, none⟩))) w1) : wpList Tryz.prog ops Q (o :: rest) a w :=
  wpList_plain hgd fun _ hKK => by
    have hr : (execOp a.eval o).run Tryz.prog w = .ok (.value (.pointer (some ⟨w.heap.size, 0, none⟩))) (w.alloc (.cells (nodeA h sv) 27)) := by
      unfold execOp
      rw [ho]
      simp [Instr.box, hx, nodeV_eq, newVar, newRow, Value.cells]
    unfold Oper.wp
    rw [hr]
    exact hKK _ _ (hK _ _ (Blk.new w _ _) ((Ext.refl w).alloc _) (Nat.le_refl _) (by simp))
/-- 'alloc' of a node: the zero. -/
theorem zero_nd : (Tryz.prog.info? 27).map (fun i => i.zero) = some (some (nodeV (⟨0, fun _ => false, 0, 0, 0, false⟩ : Hd) (.slice none 0 0))) := by kernel_rfl
theorem wpl_allocNd (hgd : o.guard = none) (ho : o.op = .alloc 27)
    (hK : ∀ g w1, Blk w1 g 27 (nodeA ⟨0, fun _ => false, 0, 0, 0, false⟩ (.slice none 0 0)) → Ext w w1 → w.heap.size ≤ g → g < w1.heap.size → wpList Tryz.prog ops Q rest (a.put o.dst (.pointer (some ⟨g, 0, none⟩))) w1) : wpList Tryz.prog ops Q (o :: rest) a w :=
  wpList_plain hgd fun _ hKK => by
    have hr : (execOp a.eval o).run Tryz.prog w = .ok (.value (.pointer (some ⟨w.heap.size, 0, none⟩))) (w.alloc (.cells (nodeA ⟨0, fun _ => false, 0, 0, 0, false⟩ (.slice none 0 0)) 27)) := by
      unfold execOp
      rw [ho]
      simp [Instr.alloc, newVar, newRow, Value.cells]
      rfl
    unfold Oper.wp
    rw [hr]
    exact hKK _ _ (hK _ _ (Blk.new w _ _) ((Ext.refl w).alloc _) (Nat.le_refl _) (by simp))
/-- The load of a whole node. -/
theorem wpl_loadNd (hgd : o.guard = none) (x : Operand) (ho : o.op = .load 27 x) (g k : Nat) (h : Hd) (sv : Value) (hx : a.eval x = .pointer (some ⟨g, k, none⟩)) (hN : NdAt w g k h sv)
    (hK : wpList Tryz.prog ops Q rest (a.put o.dst (nodeV h sv)) w) : wpList Tryz.prog ops Q (o :: rest) a w :=
  wpList_load_mid hgd 27 x ho g k hx (nodeC h sv) _ (fun j v hv => by
    have hj : j < 10 := (List.getElem?_eq_some_iff.1 hv).1
    rw [hN j hj, hv]) Tryz.underlying27 rfl info_nd hK
/-- The store of a whole node into a block of its own. -/
theorem wpl_storeNd (hgd : o.guard = none) (x y : Operand) (ho : o.op = .store 27 x y) (hd : o.dst = none) (g : Nat) (h h' : Hd) (sv sv' : Value) (hx : a.eval x = .pointer (some ⟨g, 0, none⟩)) (hy : a.eval y = nodeV h sv) (hs : isSl sv) (hB : Blk w g 27 (nodeA h' sv'))
    (hK : ∀ w1, Blk w1 g 27 (nodeA h sv) → Keeps (· = g) w w1 → wpList Tryz.prog ops Q rest a w1) : wpList Tryz.prog ops Q (o :: rest) a w := by
  have hpa : a.put o.dst undef = a := by rw [hd]; rfl
  rw [← hpa] at hK
  refine wpList_store_row hgd _ x y ho g (nodeA h sv) hx hy _ (nodeA h' sv') hB (info_ndA h sv) rfl (nodeA_one hs) (hK _ (setRow_heap w g _ _ _ _ hB) ⟨rfl, rfl, rfl, by simp, fun k _ hk => setRow_other w g k _ hk⟩)
/-- The store of a node's list. -/
theorem wpl_storeSubs (hgd : o.guard = none) (x y : Operand) (ho : o.op = .store 25 x y) (hd : o.dst = none) (g : Nat) (h : Hd) (sv sv' : Value) (hx : a.eval x = .pointer (some ⟨g, 5, none⟩)) (hy : a.eval y = sv) (hs : isSl sv) (hB : Blk w g 27 (nodeA h sv'))
    (hK : ∀ w1, Blk w1 g 27 (nodeA h sv) → Keeps (· = g) w w1 → wpList Tryz.prog ops Q rest a w1) : wpList Tryz.prog ops Q (o :: rest) a w := by
  have hpa : a.put o.dst undef = a := by rw [hd]; rfl
  rw [← hpa] at hK
  refine wpList_plain hgd fun _ hKK => ?_
  have hc : w.cell? ⟨g, 5, none⟩ = some sv' := by rw [hB.cell]; rfl
  unfold Oper.wp execOp
  simp only [ho, hx, hy, Instr.storeAt, Instr.sureAddr, Sem.run_bind, Sem.run_pure, Result.andThen_ok, run_storeVar_cell (P := Tryz.prog) w g 5 25 sv sv' hc (hB.frozen 5) info_sl hs.one]
  exact hKK _ _ (hK _ (hB.set 5 _) ((Keeps.refl (· = g) w).setCell (.inr rfl) _))
/-- The store of a whole node into a list of the call's own. -/
theorem wpl_setNd (hgd : o.guard = none) (x y : Operand) (ho : o.op = .store 27 x y) (hd : o.dst = none) (B g n c : Nat) (rows : List (List Value)) (j : Nat) (h : Hd) (sv : Value) (hx : a.eval x = .pointer (some ⟨g, j * 10, none⟩)) (hy : a.eval y = nodeV h sv) (hs : isSl sv)
    (hO : OwnR w B 27 10 (.slice (some ⟨g, 0, none⟩) n c) rows) (hj : j < rows.length)
    (hK : ∀ w1, OwnR w1 B 27 10 (.slice (some ⟨g, 0, none⟩) n c) (rows.set j (nodeC h sv)) → w.grownBy w1 (some g) → wpList Tryz.prog ops Q rest a w1) : wpList Tryz.prog ops Q (o :: rest) a w := by
  have hpa : a.put o.dst undef = a := by rw [hd]; rfl
  rw [← hpa] at hK
  obtain ⟨h1, h2⟩ := hO.store (by decide) j hj (nodeC_len h sv)
  refine wpList_store_mid hgd 27 x y ho g (j * 10) (nodeA h sv) hx hy (fun i hi => ⟨?_, hO.frozen _⟩) (info_ndA h sv) (nodeA_one hs) (hK _ h1 h2)
  have hr : rows[j]? = some rows[j] := List.getElem?_eq_getElem hj
  rw [hO.cell j _ hr i hi, List.getElem?_eq_getElem (by rw [hO.2 _ (List.getElem_mem hj)]; exact hi)]
  rfl
/-- A list literal of one node. -/
theorem wpl_oneNd (hgd : o.guard = none) (x : Operand) (ho : o.op = .buildSlice 25 1 #[(0, x)]) (h : Hd) (sv : Value) (hx : a.eval x = nodeV h sv)
    (hK : ∀ g w1, Blk w1 g 27 (nodeA h sv) → Ext w w1 → w.heap.size ≤ g → g < w1.heap.size → wpList Tryz.prog ops Q rest (a.put o.dst (.slice (some ⟨g, 0, none⟩) 1 1)) w1) : wpList Tryz.prog ops Q (o :: rest) a w := by
  obtain ⟨i, hi, hz⟩ := Option.map_eq_some_iff.1 zero_nd
  have hs : i.size = 10 := by have := info_nd; rw [hi] at this; simpa using this
  refine wpList_buildSlice hgd 25 27 1 _ ho (nodeA h sv) i _ Tryz.underlying25 hi hz (by rw [hs]; decide) (by rw [hs]; decide) ?_ (hK _ _ (Blk.new w _ _) ((Ext.refl w).alloc _) (Nat.le_refl _) (by simp))
  rw [hs]
  have hf := Great.fill_whole (s := 10) (by decide) [nodeV h sv] ((Array.range (1 * 10)).map ((nodeV ⟨0, fun _ => false, 0, 0, 0, false⟩ (.slice none 0 0)).cells[· % (nodeV ⟨0, fun _ => false, 0, 0, 0, false⟩ (.slice none 0 0)).cells.size]!)) (fun v hv => by simp only [List.mem_singleton] at hv; subst hv; rfl) (by simp)
  have e : (List.map (fun x => (x.2, x.1)) ([nodeV h sv].zipIdx 0)) = (Array.map (fun x => (x.1, a.eval x.2)) #[(0, x)]).toList := by simp [hx]
  rw [e] at hf
  rw [hf]
  simp [nodeV_eq, Value.cells]
/-- A return of a node that lies in the result's block. -/
theorem ret_nd {fn : Func} {x : Tmp} {R : Ending → World → Prop} {g : Nat} {h : Hd} {sv : Value} (hr : fn.results = #[.cell x 27]) (hp : a.tmps.getD x undef = .pointer (some ⟨g, 0, none⟩)) (hd : a.defers = [])
    (hB : Blk w g 27 (nodeA h sv)) (hR : R (.returned (nodeV h sv)) w) : bodyPost Tryz.prog fn R .ret a w :=
  bodyPost_ret (results_cell_row hr a.tmps w g 27 (nodeA h sv) (0, 0) _ hp hB Tryz.underlying27 rfl (info_ndA h sv)) hd hR

/-- The load of a whole node, guarded. -/
theorem wpl_loadNdG (x : Operand) (ho : o.op = .load 27 x) (hw : Region.wanted o (yielded ops a.tmps) = true) (g k : Nat) (h : Hd) (sv : Value) (hx : a.eval x = .pointer (some ⟨g, k, none⟩)) (hN : NdAt w g k h sv)
    (hK : wpList Tryz.prog ops Q rest (a.put o.dst (nodeV h sv)) w) : wpList Tryz.prog ops Q (o :: rest) a w := by
  unfold wpList
  rw [if_pos hw]
  exact .inl (wp_load_mid 27 x ho g k hx (nodeC h sv) _ (fun j v hv => by
    have hj : j < 10 := (List.getElem?_eq_some_iff.1 hv).1
    rw [hN j hj, hv]) Tryz.underlying27 rfl info_nd hK)

theorem info_ndZ : (Tryz.prog.info? 27).map (fun i => (i.zero, i.size, i.bytes)) = some (some (.agg (nodeC ⟨0, fun _ => false, 0, 0, 0, false⟩ (.slice none 0 0)).toArray), 10, 96) := by kernel_rfl
def zrow : List Value := nodeC ⟨0, fun _ => false, 0, 0, 0, false⟩ (.slice none 0 0)
/-- 'list = append(list, node)' where the call made the list and the node's lists. -/
theorem wpl_appFp (hgd : o.guard = none) (s x : Operand) (ho : o.op = .call { callee := .builtin .append, args := #[s, x], argTypes := #[25, 25] })
    (B : Nat) (v : Value) (l : List Kid) (n : Nd) (sv : Value) (g c : Nat) (W : World) (hs : a.eval s = v) (hx : a.eval x = .slice (some ⟨g, 0, none⟩) 1 c) (hL : LstFp W B 27 v l) (hW : Ext W w) (hB : B ≤ W.heap.size) (hn : NdNew W.heap.size w n sv) (hg : Blk w g 27 (nodeA n.h sv)) (hl : l.length ≤ 1000000000)
    (hK : ∀ v' w1, (∃ f, LstFp w1 B 27 v' (l ++ [(n, sv, f)])) → Ext W w → w.grownBy w1 v.ownBlock → wpList Tryz.prog ops Q rest (a.put o.dst v') w1) : wpList Tryz.prog ops Q (o :: rest) a w := by
  have hE := hL.ext hW
  have hO : OwnR w B 27 10 v (kidsRow l) := by simpa using hE.own
  refine wpList_appR hgd s x _ ho B 27 _ 10 96 Tryz.underlying25 info_ndZ rfl (by decide) v (kidsRow l) hs hO g c (nodeC n.h sv) rfl hx (fun i _ => by rw [hg.cell, nodeA_get]) (nodeC_one hn.ok.sl) (by simp [kidsRow]; omega) (by simp [kidsRow]; omega) (Nat.le_trans hB hW.size) ?_
  intro v' w1 h1 h2 h3
  exact hK v' w1 (LstZ.snoc hL hW hB hn (by simpa using h1) h2 h3) hW h2
theorem ext_grown_lst {W w0 w w1 : World} {B : Nat} {v : Value} {l : List Kid} (h : Ext w0 w) (hL : LstFp W B 27 v l) (hB : w0.heap.size ≤ B) (hg : w.grownBy w1 v.ownBlock) : Ext w0 w1 :=
  h.grown hg fun k hk => by have := (hL.own.own k hk).1; omega
end

end Go.Proofs.YtgfknlkpdiejgaaGreatDoor
