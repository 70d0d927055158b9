/- Rows whose elements take several cells, made by the call: read, appended to, kept. No condition. -/
import Derived.Test.YtgfknlkpdiejgaaDoorKeeps
import Derived.Laws.OwnMore
import Derived.Laws.IdiomCopy
namespace Go.Proofs.YtgfknlkpdiejgaaDoor
open Go.RowKit

/-- All elements take k cells. -/
def Wide (k : Nat) (rows : List (List Value)) : Prop := ∀ r ∈ rows, r.length = k
theorem flat_len {k : Nat} : ∀ {rows : List (List Value)}, Wide k rows → rows.flatten.length = rows.length * k
  | [], _ => by simp
  | r :: rows, h => by
    rw [List.flatten_cons, List.length_append, flat_len (fun x hx => h x (by simp [hx])), h r (by simp), List.length_cons, Nat.add_mul, Nat.one_mul, Nat.add_comm]
theorem flat_get {k : Nat} : ∀ {rows : List (List Value)}, Wide k rows → ∀ j i r, rows[j]? = some r → i < k → rows.flatten[j * k + i]? = r[i]?
  | [], _, j, i, r, hj, _ => by simp at hj
  | a :: rows, h, 0, i, r, hj, hi => by
    simp only [List.getElem?_cons_zero, Option.some.injEq] at hj
    subst hj
    rw [List.flatten_cons, Nat.zero_mul, Nat.zero_add, List.getElem?_append_left (by rw [h a (by simp)]; exact hi)]
  | a :: rows, h, j + 1, i, r, hj, hi => by
    have ha := h a (by simp)
    rw [List.flatten_cons, List.getElem?_append_right (by rw [ha, Nat.add_mul]; omega), ha]
    have e : (j + 1) * k + i - k = j * k + i := by rw [Nat.add_mul]; omega
    rw [e]
    exact flat_get (fun x hx => h x (by simp [hx])) j i r (by simpa using hj) hi

/-- A row that the call made, of elements of k cells. -/
def OwnR (w : World) (B : Nat) (e : TypeId) (k : Nat) (v : Value) (rows : List (List Value)) : Prop := w.ownsRow B e k v rows.length rows.flatten ∧ Wide k rows

section
variable {w w' : World} {B B' k : Nat} {e e' : TypeId} {v : Value} {rows : List (List Value)} {F : Nat → Prop}
theorem OwnR.nil (w : World) (B : Nat) (e : TypeId) (k : Nat) : OwnR w B e k (.slice none 0 0) [] := ⟨World.ownsRow_nil _ _ _ _, fun _ h => by cases h⟩
theorem OwnR.slice (h : OwnR w B e k v rows) :
    (v = .slice none 0 0 ∧ rows = []) ∨ ∃ g cap cur, v = .slice (some ⟨g, 0, none⟩) rows.length cap ∧ B ≤ g ∧ Blk w g e cur ∧ rows.length ≤ cap ∧ cap ≤ maxLen ∧ cur.size = cap * k := by
  rcases h.1.2 with ⟨h0, h1⟩ | ⟨g, cap, cur, hv, hg, hh, hnc, hm, hs, _⟩
  · exact .inl ⟨h0, List.eq_nil_of_length_eq_zero h1⟩
  · exact .inr ⟨g, cap, cur, hv, hg, hh, hnc, hm, hs⟩
theorem OwnR.keeps (h : OwnR w B e k v rows) (hk : Keeps F w w') (hv : ∀ i, v.ownBlock = some i → ¬ F i) : OwnR w' B e k v rows := by
  obtain ⟨⟨h1, h2⟩, h3⟩ := h
  refine ⟨⟨h1, ?_⟩, h3⟩
  rcases h2 with h2 | ⟨g, cap, cur, rfl, hg, hh, r⟩
  · exact .inl h2
  · exact .inr ⟨g, cap, cur, rfl, hg, Blk.keeps (t := e) (cs := cur) hh hk (hv g rfl), r⟩
theorem OwnR.ext (h : OwnR w B e k v rows) (hx : Ext w w') : OwnR w' B e k v rows := h.keeps (F := fun _ => False) (Keeps.of_ext hx) (fun _ _ hf => hf)
theorem OwnR.mono (h : OwnR w B e k v rows) (hb : B' ≤ B) : OwnR w B' e k v rows := by
  obtain ⟨⟨h1, h2⟩, h3⟩ := h
  refine ⟨⟨h1, ?_⟩, h3⟩
  rcases h2 with h2 | ⟨g, cap, cur, hv, hg, r⟩
  · exact .inl h2
  · exact .inr ⟨g, cap, cur, hv, by omega, r⟩
theorem OwnR.own (h : OwnR w B e k v rows) : ∀ i, v.ownBlock = some i → B ≤ i ∧ i < w.heap.size := fun i hi => h.1.lt i hi
theorem OwnR.shape (h : OwnR w B e k v rows) : ∃ A c, v = .slice A rows.length c ∧ rows.length ≤ c := by
  rcases h.slice with ⟨rfl, rfl⟩ | ⟨g, cap, cur, rfl, _, _, hc, _⟩
  · exact ⟨none, 0, rfl, Nat.le_refl _⟩
  · exact ⟨_, _, rfl, hc⟩
theorem OwnR.cell {g n cap : Nat} (h : OwnR w B e k (.slice (some ⟨g, 0, none⟩) n cap) rows) (j : Nat) (r : List Value) (hj : rows[j]? = some r) (i : Nat) (hi : i < k) :
    w.cell? ⟨g, j * k + i, none⟩ = r[i]? := by
  have hr : r.length = k := h.2 r (List.mem_of_getElem? hj)
  have e1 := flat_get h.2 j i r hj hi
  rw [List.getElem?_eq_getElem (show i < r.length by omega)] at e1
  have := World.ownsRow.cells (v := .slice (some ⟨g, 0, none⟩) n cap) (n := rows.length) h.1 (g := g) rfl _ _ e1
  have ea : (⟨g, 0, none⟩ : Addr).add (j * k + i) = ⟨g, j * k + i, none⟩ := by unfold Addr.add; split <;> simp_all
  rw [ea] at this
  rw [this, List.getElem?_eq_getElem (show i < r.length by omega)]
theorem OwnR.form (h : OwnR w B e k v rows) (hn : 0 < rows.length) : ∃ g cap, v = .slice (some ⟨g, 0, none⟩) rows.length cap ∧ B ≤ g ∧ g < w.heap.size ∧ rows.length ≤ cap := by
  rcases h.slice with ⟨_, rfl⟩ | ⟨g, cap, cur, rfl, hg, hb, hc, _⟩
  · exact absurd hn (Nat.lt_irrefl 0)
  · exact ⟨g, cap, rfl, hg, hb.lt, hc⟩
theorem OwnR.len (h : OwnR w B e k v rows) : v = .slice none 0 0 → rows.length = 0 := fun hv => by
  rcases h.slice with ⟨_, rfl⟩ | ⟨g, cap, cur, rfl, _⟩
  · rfl
  · cases hv
end

/-- 'v = append(v, x)' where the call itself made v. -/
theorem wpList_appR {P : Program} {w : World} {ops : Array Oper} {rest : List Oper} {o : Oper} {a : Act} {Q : Exit → Act → World → Prop} (hgd : o.guard = none) (s x : Operand) (t : TypeId)
    (ho : o.op = .call { callee := .builtin .append, args := #[s, x], argTypes := #[t, t] })
    (B : Nat) (e : TypeId) (z : Value) (k bytes : Nat) (ht : P.underlying t = some (.slice e)) (hi : (P.info? e).map (fun i => (i.zero, i.size, i.bytes)) = some (some z, k, bytes)) (hzs : z.cells.size = k) (hk : 0 < k)
    (v : Value) (rows : List (List Value)) (hs : a.eval s = v) (hown : OwnR w B e k v rows)
    (g c : Nat) (r : List Value) (hr : r.length = k) (hx : a.eval x = .slice (some ⟨g, 0, none⟩) 1 c) (hc : ∀ i, i < k → w.cell? ⟨g, i, none⟩ = r[i]?) (h1 : ∀ u ∈ r, u.oneCell' = true)
    (hb : (rows.length + 1) * bytes ≤ 140737488355328) (hl : rows.length + 1 ≤ 9223372036854775807) (hbase : B ≤ w.heap.size)
    (h : ∀ v' w', OwnR w' B e k v' (rows ++ [r]) → w.grownBy w' v.ownBlock → (v'.ownBlock = v.ownBlock ∨ v'.ownBlock = some w.heap.size) → wpList P ops Q rest (a.put o.dst v') w') : wpList P ops Q (o :: rest) a w := by
  obtain ⟨i, hi0, hz0, hz1, hz2⟩ := info_parts hi
  refine wpList_append_own_at w hgd s x t ho B e i z k bytes ht hi0 hz0 hz1 hz2 hzs hk v rows.length rows.flatten hs hown.1 ⟨g, 0, none⟩ 1 c r hx (by omega) ?_ h1 (by simp only [maxLen]; omega) hb hbase ?_
  · intro j u hj
    have ea : (⟨g, 0, none⟩ : Addr).add j = ⟨g, j, none⟩ := by unfold Addr.add; split <;> simp_all
    rw [ea, hc j (by have := (List.getElem?_eq_some_iff.1 hj).1; omega), hj]
  · intro v' w' ho' hg _ hat
    refine h v' w' ⟨by simpa using ho', fun y hy => ?_⟩ hg hat
    rcases List.mem_append.1 hy with hy | hy
    · exact hown.2 y hy
    · simp only [List.mem_singleton] at hy; subst hy; exact hr

theorem Ext.grown {w w1 w2 : World} {row : Option Nat} (h : Ext w w1) (hg : w1.grownBy w2 row) (hr : ∀ k, row = some k → w.heap.size ≤ k) : Ext w w2 :=
  ⟨hg.os.trans h.os, hg.tape.trans h.tape, hg.output.trans h.output, Nat.le_trans (Below.size h) hg.size, fun k hk => (hg.block k (Nat.lt_of_lt_of_le hk (Below.size h)) (fun e => by have := hr k e.symm; omega)).trans (Below.block h k hk)⟩


/-! ### stores into a row -/
def setL (xs : List Value) : Nat → List Value → List Value
  | _, [] => xs
  | o, v :: r => setL (xs.set o v) (o + 1) r
theorem setL_len : ∀ (vs : List Value) (o : Nat) (xs : List Value), (setL xs o vs).length = xs.length
  | [], _, _ => rfl
  | v :: r, o, xs => by rw [setL, setL_len r]; simp
theorem setL_get : ∀ (vs : List Value) (o : Nat) (xs : List Value) (i : Nat), o + vs.length ≤ xs.length → (setL xs o vs)[i]? = if o ≤ i ∧ i < o + vs.length then vs[i - o]? else xs[i]?
  | [], o, xs, i, _ => by rw [setL, if_neg (by simp)]
  | v :: r, o, xs, i, h => by
    simp only [List.length_cons] at h ⊢
    rw [setL, setL_get r (o + 1) (xs.set o v) i (by simp; omega)]
    by_cases h1 : o + 1 ≤ i ∧ i < o + 1 + r.length
    · rw [if_pos h1, if_pos (by omega), show i - o = (i - (o + 1)) + 1 by omega, List.getElem?_cons_succ]
    · rw [if_neg h1]
      by_cases h2 : i = o
      · subst h2
        rw [if_pos (by omega), Nat.sub_self, List.getElem?_cons_zero, List.getElem?_set_self (by omega)]
      · rw [if_neg (by omega), List.getElem?_set_ne (by omega)]
theorem wide_set {k : Nat} {rows : List (List Value)} (h : Wide k rows) (j : Nat) {r : List Value} (hr : r.length = k) : Wide k (rows.set j r) := fun x hx => by
  rcases List.mem_or_eq_of_mem_set hx with hx | rfl
  · exact h x hx
  · exact hr
theorem setL_row {k : Nat} {rows : List (List Value)} (h : Wide k rows) (hk : 0 < k) (j : Nat) (hj : j < rows.length) {r : List Value} (hr : r.length = k) : setL rows.flatten (j * k) r = (rows.set j r).flatten := by
  have hw := wide_set h j hr
  have hle : j * k + k ≤ rows.length * k := by rw [← Nat.succ_mul]; exact Nat.mul_le_mul_right k hj
  have hlen := flat_len h
  apply List.ext_getElem?
  intro i
  rw [setL_get _ _ _ _ (by omega)]
  rcases Nat.lt_or_ge i (rows.length * k) with hi | hi
  · have hd : i / k < rows.length := by rw [Nat.div_lt_iff_lt_mul hk]; exact hi
    have hm : i % k < k := Nat.mod_lt _ hk
    have e : i = i / k * k + i % k := by rw [Nat.mul_comm]; exact (Nat.div_add_mod i k).symm
    by_cases hij : i / k = j
    · have e2 : i = j * k + i % k := by rw [← hij]; exact e
      rw [if_pos (by omega), show i - j * k = i % k by omega]
      conv => rhs; rw [e2]
      rw [flat_get hw j (i % k) r (by rw [List.getElem?_set_self hj]) hm]
    · have hr2 : rows[i / k]? = some rows[i / k] := List.getElem?_eq_getElem hd
      rw [if_neg (fun hc => by
        have h1 : i / k < j + 1 := by rw [Nat.div_lt_iff_lt_mul hk, Nat.succ_mul]; omega
        have h2 : j ≤ i / k := by rw [Nat.le_div_iff_mul_le hk]; omega
        omega)]
      conv => lhs; rw [e]
      conv => rhs; rw [e]
      rw [flat_get h _ _ _ hr2 hm, flat_get hw (i / k) (i % k) rows[i / k] (by rw [List.getElem?_set_ne (fun e => hij e.symm), hr2]) hm]
  · have hlen2 := flat_len hw
    rw [List.length_set] at hlen2
    rw [if_neg (by omega), List.getElem?_eq_none (by omega), List.getElem?_eq_none (by omega)]
theorem own_setCells {B g n cap : Nat} {e : TypeId} {k : Nat} : ∀ (vs : List Value) (o : Nat) (w : World) (xs : List Value), w.ownsRow B e k (.slice (some ⟨g, 0, none⟩) n cap) n xs →
    (w.setCells g o vs).ownsRow B e k (.slice (some ⟨g, 0, none⟩) n cap) n (setL xs o vs) ∧ w.grownBy (w.setCells g o vs) (some g)
  | [], _, w, _, h => ⟨h, rfl, rfl, rfl, Nat.le_refl _, fun _ _ _ => rfl⟩
  | v :: r, o, w, xs, h => by
    obtain ⟨h1, h2⟩ := h.stored o v
    obtain ⟨h3, h4⟩ := own_setCells r (o + 1) _ _ h1
    exact ⟨h3, h2.trans h4⟩
theorem OwnR.store {w : World} {B g n cap : Nat} {e : TypeId} {k : Nat} {rows : List (List Value)} (h : OwnR w B e k (.slice (some ⟨g, 0, none⟩) n cap) rows) (hk : 0 < k) (j : Nat) (hj : j < rows.length) {r : List Value} (hr : r.length = k) :
    OwnR (w.setCells g (j * k) r) B e k (.slice (some ⟨g, 0, none⟩) n cap) (rows.set j r) ∧ w.grownBy (w.setCells g (j * k) r) (some g) := by
  have hn : n = rows.length := by
    rcases h.slice with ⟨h0, _⟩ | ⟨g', cap', cur, hv, _⟩
    · cases h0
    · simp only [Value.slice.injEq] at hv; exact hv.2.1
  subst hn
  obtain ⟨h1, h2⟩ := own_setCells r (j * k) w rows.flatten h.1
  rw [setL_row h.2 hk j hj hr] at h1
  exact ⟨⟨by rw [List.length_set]; exact h1, wide_set h.2 j hr⟩, h2⟩
/-- One cell of one element. -/
theorem OwnR.store1 {w : World} {B g n cap : Nat} {e : TypeId} {k : Nat} {rows : List (List Value)} (h : OwnR w B e k (.slice (some ⟨g, 0, none⟩) n cap) rows) (j : Nat) (r : List Value) (hj : rows[j]? = some r) (i : Nat) (hi : i < k) (u : Value) :
    OwnR (w.setCell ⟨g, j * k + i, none⟩ u) B e k (.slice (some ⟨g, 0, none⟩) n cap) (rows.set j (r.set i u)) ∧ w.grownBy (w.setCell ⟨g, j * k + i, none⟩ u) (some g) := by
  have hn : n = rows.length := by
    rcases h.slice with ⟨h0, _⟩ | ⟨g', cap', cur, hv, _⟩
    · cases h0
    · simp only [Value.slice.injEq] at hv; exact hv.2.1
  subst hn
  have hjl : j < rows.length := (List.getElem?_eq_some_iff.1 hj).1
  have hr : (r.set i u).length = k := by rw [List.length_set]; exact h.2 r (List.mem_of_getElem? hj)
  obtain ⟨h1, h2⟩ := h.1.stored (j * k + i) u
  have e1 : rows.flatten.set (j * k + i) u = (rows.set j (r.set i u)).flatten := by
    rw [← setL_row h.2 (by omega) j hjl hr]
    have hle : j * k + k ≤ rows.length * k := by rw [← Nat.succ_mul]; exact Nat.mul_le_mul_right k hjl
    have hlen := flat_len h.2
    apply List.ext_getElem?
    intro x
    rw [setL_get _ _ _ _ (by omega)]
    by_cases hx : j * k ≤ x ∧ x < j * k + k
    · rw [if_pos (by omega)]
      have e2 := flat_get h.2 j (x - j * k) r hj (by omega)
      rw [show j * k + (x - j * k) = x by omega] at e2
      rw [List.getElem?_set, List.getElem?_set, e2]
      by_cases hxi : j * k + i = x
      · rw [if_pos hxi, if_pos (by omega), if_pos (by omega), if_pos (by have := h.2 r (List.mem_of_getElem? hj); omega)]
      · rw [if_neg hxi, if_neg (by omega)]
    · rw [if_neg (by omega), List.getElem?_set_ne (by omega)]
  rw [e1] at h1
  exact ⟨⟨by rw [List.length_set]; exact h1, wide_set h.2 j hr⟩, h2⟩
theorem OwnR.frozen {w : World} {B g n cap : Nat} {e : TypeId} {k : Nat} {rows : List (List Value)} (h : OwnR w B e k (.slice (some ⟨g, 0, none⟩) n cap) rows) (i : Nat) : w.frozen? ⟨g, i, none⟩ = false := by
  rcases h.slice with ⟨h0, _⟩ | ⟨g', cap', cur, hv, _, hb, _⟩
  · cases h0
  · simp only [Value.slice.injEq, Option.some.injEq, Addr.mk.injEq, and_true] at hv
    rw [hv.1]
    exact hb.frozen i
theorem Keeps.of_grown {w w' : World} {row : Option Nat} (h : w.grownBy w' row) : Keeps (fun i => row = some i) w w' :=
  ⟨h.os, h.tape, h.output, h.size, fun k hk hf => h.block k hk (fun e => hf e.symm)⟩
/-- A list made with its full length, all zero. -/
theorem wpList_makeR {P : Program} {w : World} {ops : Array Oper} {rest : List Oper} {o : Oper} {a : Act} {Q : Exit → Act → World → Prop} (hgd : o.guard = none) (l c : Operand) (t : TypeId) (hop : o.op = Op.makeSlice t l c)
    (B : Nat) (e : TypeId) (z : List Value) (k bytes : Nat) (ht : P.underlying t = some (.slice e)) (hi : (P.info? e).map (fun i => (i.zero, i.size, i.bytes)) = some (some (.agg z.toArray), k, bytes)) (hzs : z.length = k) (hk : 0 < k)
    (n : Nat) (hl : a.eval l = .int .i64 n) (hc : a.eval c = .int .i64 n) (hb : bytes * n ≤ 140737488355328) (hn : n ≤ 9223372036854775807) (hbase : B ≤ w.heap.size)
    (h : ∀ g w', OwnR w' B e k (.slice (some ⟨g, 0, none⟩) n n) (List.replicate n z) → Ext w w' → w.heap.size = g → g < w'.heap.size → wpList P ops Q rest (a.put o.dst (.slice (some ⟨g, 0, none⟩) n n)) w') : wpList P ops Q (o :: rest) a w := by
  obtain ⟨i, hi0, hz0, hz1, hz2⟩ := info_parts hi
  refine wpList_make_full w hgd l c t hop B e i _ k ht hi0 hz0 hz1 .i64 .i64 n n n hl hc rfl rfl (by rw [hz2]; omega) (by simp only [maxLen]; omega) hbase ?_
  intro w' ho hg
  have hw : Wide k (List.replicate n z) := fun r hr => by rw [List.eq_of_mem_replicate hr]; exact hzs
  have e1 : (madeCells (Value.cells (.agg z.toArray)) (n * k)).toList = (List.replicate n z).flatten := by
    have hlen := flat_len hw
    rw [List.length_replicate] at hlen
    apply List.ext_getElem?
    intro x
    rcases Nat.lt_or_ge x (n * k) with hx | hx
    · have hd : x / k < n := by rw [Nat.div_lt_iff_lt_mul hk]; exact hx
      have hm : x % k < k := Nat.mod_lt _ hk
      have ex : x = x / k * k + x % k := by rw [Nat.mul_comm]; exact (Nat.div_add_mod x k).symm
      conv => rhs; rw [ex]
      rw [flat_get hw (x / k) (x % k) z (by rw [List.getElem?_replicate, if_pos hd]) hm]
      simp [madeCells, Value.cells, hx, hzs, hm]
    · rw [List.getElem?_eq_none (by simp [size_madeCells]; omega), List.getElem?_eq_none (by omega)]
  rw [e1] at ho
  exact h _ w' ⟨by rw [List.length_replicate]; exact ho, hw⟩ ((Ext.refl w).grown hg (fun _ hk => by cases hk)) rfl (by have := ho.lt w.heap.size rfl; omega)

/-- A list made with room only. -/
theorem wpList_makeR0 {P : Program} {w : World} {ops : Array Oper} {rest : List Oper} {o : Oper} {a : Act} {Q : Exit → Act → World → Prop} (hgd : o.guard = none) (l c : Operand) (t : TypeId) (hop : o.op = Op.makeSlice t l c)
    (B : Nat) (e : TypeId) (z : Value) (k bytes : Nat) (ht : P.underlying t = some (.slice e)) (hi : (P.info? e).map (fun i => (i.zero, i.size, i.bytes)) = some (some z, k, bytes))
    (n : Nat) (hl : a.eval l = .int .i64 0) (hc : a.eval c = .int .i64 n) (hb : bytes * n ≤ 140737488355328) (hn : n ≤ 9223372036854775807) (hbase : B ≤ w.heap.size)
    (h : ∀ g w', OwnR w' B e k (.slice (some ⟨g, 0, none⟩) 0 n) [] → Ext w w' → w.heap.size ≤ g → g < w'.heap.size → wpList P ops Q rest (a.put o.dst (.slice (some ⟨g, 0, none⟩) 0 n)) w') : wpList P ops Q (o :: rest) a w := by
  obtain ⟨i, hi0, hz0, hz1, hz2⟩ := info_parts hi
  refine wpList_make_own w hgd l c t hop B e i _ k ht hi0 hz0 hz1 .i64 .i64 n n hl hc rfl (by rw [hz2]; omega) (by simp only [maxLen]; omega) hbase ?_
  intro w' ho hg
  exact h _ w' ⟨ho, fun _ h => by cases h⟩ ((Ext.refl w).grown hg (fun _ hk => by cases hk)) (Nat.le_refl _) (by have := ho.lt w.heap.size rfl; omega)

end Go.Proofs.YtgfknlkpdiejgaaDoor
