/- Worlds of which only some blocks have turned; append onto a row that the program made, with what it leaves of the others. No condition. -/
import Derived.Test.YtgfknlkpdiejgaaDoorLib
namespace Go.Proofs.YtgfknlkpdiejgaaDoor
open Go.RowKit

/-- w' is w, and more: of w's blocks only those of F may have turned. -/
structure Keeps (F : Nat → Prop) (w w' : World) : Prop where
  os : w'.os = w.os
  tape : w'.tape = w.tape
  output : w'.output = w.output
  size : w.heap.size ≤ w'.heap.size
  block : ∀ k, k < w.heap.size → ¬ F k → w'.heap[k]? = w.heap[k]?

section
variable {F G : Nat → Prop} {w w' w'' : World}
theorem Keeps.refl (F : Nat → Prop) (w : World) : Keeps F w w := ⟨rfl, rfl, rfl, Nat.le_refl _, fun _ _ _ => rfl⟩
theorem Keeps.of_ext (h : Ext w w') : Keeps F w w' := ⟨h.os, h.tape, h.output, Below.size h, fun k hk _ => Below.block h k hk⟩
theorem Keeps.trans (h : Keeps F w w') (k : Keeps G w' w'') (hG : ∀ i, i < w.heap.size → G i → F i) : Keeps F w w'' :=
  ⟨k.os.trans h.os, k.tape.trans h.tape, k.output.trans h.output, Nat.le_trans h.size k.size, fun i hi hF => (k.block i (Nat.lt_of_lt_of_le hi h.size) (fun hg => hF (hG i hi hg))).trans (h.block i hi hF)⟩
theorem Keeps.mono (h : Keeps F w w') (hF : ∀ i, i < w.heap.size → F i → G i) : Keeps G w w' := ⟨h.os, h.tape, h.output, h.size, fun i hi hg => h.block i hi (fun hf => hg (hF i hi hf))⟩
theorem Keeps.drew (h : Keeps F w w') : Keeps F w w'.drew := ⟨h.os, h.tape, h.output, h.size, h.block⟩
theorem Keeps.alloc (h : Keeps F w w') (o : Obj) : Keeps F w (w'.alloc o) := h.trans (Keeps.of_ext (F := F) ((Ext.refl w').alloc o)) (fun _ _ hf => hf)
theorem Keeps.ext' (h : Keeps F w w') (k : Ext w' w'') : Keeps F w w'' := h.trans (Keeps.of_ext (F := F) k) (fun _ _ hf => hf)
theorem Keeps.setCell (h : Keeps F w w') {p : Addr} (hp : w.heap.size ≤ p.block ∨ F p.block) (u : Value) : Keeps F w (w'.setCell p u) := by
  refine ⟨h.os, h.tape, h.output, by rw [World.size_setCell]; exact h.size, fun k hk hf => ?_⟩
  have hne : k ≠ p.block := fun e => by
    rcases hp with hp | hp
    · omega
    · exact hf (e ▸ hp)
  exact (Below.heap_setCell w' p u k hne).trans (h.block k hk hf)
theorem Keeps.grown {row : Option Nat} (h : Keeps F w w') (hg : w'.grownBy w'' row) (hr : ∀ k, row = some k → w.heap.size ≤ k ∨ F k) : Keeps F w w'' := by
  refine ⟨hg.os.trans h.os, hg.tape.trans h.tape, hg.output.trans h.output, Nat.le_trans h.size hg.size, fun k hk hf => (hg.block k (Nat.lt_of_lt_of_le hk h.size) (fun e => ?_)).trans (h.block k hk hf)⟩
  rcases hr k e.symm with h1 | h1
  · omega
  · exact hf h1
theorem Keeps.ext (h : Keeps F w w') (hF : ∀ k, k < w.heap.size → ¬ F k) : Ext w w' := ⟨h.os, h.tape, h.output, h.size, fun k hk => h.block k hk (hF k hk)⟩
theorem Ext.keeps {w0 : World} (h : Ext w0 w) (k : Keeps F w w') (hF : ∀ i, i < w0.heap.size → ¬ F i) : Ext w0 w' :=
  ⟨k.os.trans h.os, k.tape.trans h.tape, k.output.trans h.output, Nat.le_trans (Below.size h) k.size, fun i hi => (k.block i (Nat.lt_of_lt_of_le hi (Below.size h)) (hF i hi)).trans (Below.block h i hi)⟩
theorem Blk.keeps {g : Nat} {t : TypeId} {cs : Array Value} (h : Blk w g t cs) (k : Keeps F w w') (hg : ¬ F g) : Blk w' g t cs := (k.block g h.lt hg).trans h
theorem cell_keeps {p : Addr} {v : Value} (h : w.cell? p = some v) (k : Keeps F w w') (hg : ¬ F p.block) : w'.cell? p = some v :=
  (World.cell?_of_block (k.block p.block (World.block_lt_of_cell? w p h) hg)).trans h
end

theorem Own1.slice {w : World} {B : Nat} {e : TypeId} {v : Value} {xs : List Value} (h : Own1 w B e v xs) :
    (v = .slice none 0 0 ∧ xs = []) ∨ ∃ g cap cur, v = .slice (some ⟨g, 0, none⟩) xs.length cap ∧ B ≤ g ∧ Blk w g e cur ∧ xs.length ≤ cap ∧ cap ≤ maxLen ∧ cur.size = cap := by
  rcases h.2 with ⟨h0, h1⟩ | ⟨g, cap, cur, hv, hg, hh, hnc, hm, hs, _⟩
  · exact .inl ⟨h0, List.eq_nil_of_length_eq_zero h1⟩
  · exact .inr ⟨g, cap, cur, hv, hg, hh, hnc, hm, by omega⟩
theorem Own1.shape {w : World} {B : Nat} {e : TypeId} {v : Value} {xs : List Value} (h : Own1 w B e v xs) : ∃ A c, v = .slice A xs.length c ∧ xs.length ≤ c := by
  rcases h.slice with ⟨rfl, rfl⟩ | ⟨g, cap, cur, rfl, _, _, hc, _⟩
  · exact ⟨none, 0, rfl, Nat.le_refl _⟩
  · exact ⟨_, _, rfl, hc⟩
theorem Own1.own {w : World} {B : Nat} {e : TypeId} {v : Value} {xs : List Value} (h : Own1 w B e v xs) : ∀ k, v.ownBlock = some k → B ≤ k ∧ ∃ cur, Blk w k e cur := fun k hk => by
  rcases h.slice with ⟨rfl, _⟩ | ⟨g, cap, cur, rfl, hg, hb, _⟩
  · cases hk
  · simp only [Value.ownBlock, Option.some.injEq] at hk
    subst hk
    exact ⟨hg, cur, hb⟩
theorem Own1.own_lt {w : World} {B : Nat} {e : TypeId} {v : Value} {xs : List Value} (h : Own1 w B e v xs) (k : Nat) (hk : v.ownBlock = some k) : k < w.heap.size := by
  obtain ⟨_, cur, hb⟩ := h.own k hk
  exact hb.lt
theorem Own1.keeps {w w' : World} {F : Nat → Prop} {B : Nat} {e : TypeId} {v : Value} {xs : List Value} (h : Own1 w B e v xs) (k : Keeps F w w') (hv : ∀ i, v.ownBlock = some i → ¬ F i) : Own1 w' B e v xs := by
  obtain ⟨h1, h2⟩ := h
  refine ⟨h1, ?_⟩
  rcases h2 with h2 | ⟨g, cap, cur, rfl, hg, hh, r⟩
  · exact .inl h2
  · exact .inr ⟨g, cap, cur, rfl, hg, Blk.keeps (t := e) (cs := cur) hh k (hv g rfl), r⟩
/-- Two rows of other element types lie in other blocks. -/
theorem Own1.apart {w : World} {B B' : Nat} {e e' : TypeId} {v v' : Value} {xs ys : List Value} (h : Own1 w B e v xs) (h' : Own1 w B' e' v' ys) (hne : e ≠ e') : ∀ i, v.ownBlock = some i → v'.ownBlock ≠ some i := fun i h1 h2 => by
  obtain ⟨_, c, hb⟩ := h.own i h1
  obtain ⟨_, c', hb'⟩ := h'.own i h2
  exact hb.ne hb' hne rfl
theorem Own1.apartB {w : World} {B g : Nat} {e e' : TypeId} {v : Value} {xs : List Value} {cs : Array Value} (h : Own1 w B e v xs) (h' : Blk w g e' cs) (hne : e ≠ e') : v.ownBlock ≠ some g := fun h1 => by
  obtain ⟨_, c, hb⟩ := h.own g h1
  exact hb.ne h' hne rfl
theorem Own1.cells {w : World} {B : Nat} {e : TypeId} {g n cap : Nat} {xs : List Value} (h : Own1 w B e (.slice (some ⟨g, 0, none⟩) n cap) xs) : n = xs.length ∧ ∀ j u, xs[j]? = some u → w.cell? ⟨g, j, none⟩ = some u := by
  have hn : n = xs.length := by
    rcases h.slice with ⟨h0, _⟩ | ⟨g', cap', cur, hv, _⟩
    · cases h0
    · simp only [Value.slice.injEq] at hv; exact hv.2.1
  refine ⟨hn, fun j u hu => ?_⟩
  subst hn
  have := World.ownsRow.cells (v := .slice (some ⟨g, 0, none⟩) xs.length cap) h (g := g) rfl j u hu
  have ea : (⟨g, 0, none⟩ : Addr).add j = ⟨g, j, none⟩ := by unfold Addr.add; split <;> simp_all
  rwa [ea] at this

/-- 'append(v, nil...)' where the program made v. -/
theorem run_append_none {P : Program} (w : World) (t ty e : TypeId) (i : TypeInfo) (ht : P.underlying t = some (.slice e)) (hi : P.info? e = some i) (B : Nat) (v : Value) (xs : List Value) (h : Own1 w B e v xs) :
    (Builtin.append_ #[t, t] ty #[v, .slice none 0 0]).run P w = .ok v w := by
  rcases h.slice with ⟨rfl, _⟩ | ⟨g, cap, cur, rfl, _, _, hn, _⟩
  · simp [Builtin.append_, run_underlying ht, sizeOf, typeInfo, hi, Builtin.lenOf, Builtin.firstCells]
  · simp [Builtin.append_, run_underlying ht, sizeOf, typeInfo, hi, Builtin.lenOf, Builtin.firstCells, loadCells, storeCells, hn]

/-- 'append(v, x...)' where the program made v; x nil or not. -/
theorem wp_appK {P : Program} {w : World} {o : Oper} {a : Act} {K : Act → World → Prop} {Q : Exit → Act → World → Prop} (s x : Operand) (t : TypeId)
    (ho : o.op = .call { callee := .builtin .append, args := #[s, x], argTypes := #[t, t] })
    (B : Nat) (e : TypeId) (z : Value) (bytes : Nat) (ht : P.underlying t = some (.slice e)) (hi : (P.info? e).map (fun i => (i.zero, i.size, i.bytes)) = some (some z, 1, bytes)) (hzs : z.cells.size = 1)
    (v : Value) (xs news : List Value) (hs : a.eval s = v) (hown : Own1 w B e v xs)
    (hx : (a.eval x = .slice none 0 0 ∧ news = []) ∨ ∃ ad c, a.eval x = .slice (some ad) news.length c ∧ ∀ j u, news[j]? = some u → w.cell? (ad.add j) = some u)
    (h1 : ∀ u ∈ news, u.oneCell' = true)
    (hb : (xs.length + news.length) * bytes ≤ 140737488355328) (hl : xs.length + news.length ≤ 140737488355328) (hbase : B ≤ w.heap.size)
    (h : ∀ v' w', Own1 w' B e v' (xs ++ news) → w.grownBy w' v.ownBlock → (v'.ownBlock = v.ownBlock ∨ v'.ownBlock = some w.heap.size) → (v' = .slice none 0 0 → v = .slice none 0 0) → K (a.put o.dst v') w') : o.wp P a w K Q := by
  obtain ⟨i, hi0, hz0, hz1, hz2⟩ := info_parts hi
  rcases hx with ⟨hx, rfl⟩ | ⟨ad, c, hx, hc⟩
  · unfold Oper.wp execOp
    simp only [ho, resolve, invoke, builtin, Sem.run_bind, Sem.run_pure, Result.andThen_ok, List.map_toArray, List.map_cons, List.map_nil, hs, hx, run_append_none w t o.type e i ht hi0 B v xs hown]
    exact h _ _ (by simpa using hown) ⟨rfl, rfl, rfl, Nat.le_refl _, fun _ _ _ => rfl⟩ (.inl rfl) (fun h => h)
  · obtain ⟨v', w', hr, h2, h3, h4, h5⟩ := run_append_own_at (P := P) w B t o.type e i z 1 bytes ht hi0 hz0 hz1 hz2 hzs (by omega) v xs.length xs hown ad news.length c news (by omega) hc h1 (by simp only [maxLen]; omega) hb hbase
    unfold Oper.wp execOp
    simp only [ho, resolve, invoke, builtin, Sem.run_bind, Sem.run_pure, Result.andThen_ok, List.map_toArray, List.map_cons, List.map_nil, hs, hx, hr]
    exact h v' w' (by unfold Own1; simpa using h2) h3 h5 (fun h => (h4.1 h).1)
theorem wpList_appK {P : Program} {w : World} {ops : Array Oper} {rest : List Oper} {o : Oper} {a : Act} {Q : Exit → Act → World → Prop} (hgd : o.guard = none) (s x : Operand) (t : TypeId)
    (ho : o.op = .call { callee := .builtin .append, args := #[s, x], argTypes := #[t, t] })
    (B : Nat) (e : TypeId) (z : Value) (bytes : Nat) (ht : P.underlying t = some (.slice e)) (hi : (P.info? e).map (fun i => (i.zero, i.size, i.bytes)) = some (some z, 1, bytes)) (hzs : z.cells.size = 1)
    (v : Value) (xs news : List Value) (hs : a.eval s = v) (hown : Own1 w B e v xs)
    (hx : (a.eval x = .slice none 0 0 ∧ news = []) ∨ ∃ ad c, a.eval x = .slice (some ad) news.length c ∧ ∀ j u, news[j]? = some u → w.cell? (ad.add j) = some u)
    (h1 : ∀ u ∈ news, u.oneCell' = true)
    (hb : (xs.length + news.length) * bytes ≤ 140737488355328) (hl : xs.length + news.length ≤ 140737488355328) (hbase : B ≤ w.heap.size)
    (h : ∀ v' w', Own1 w' B e v' (xs ++ news) → w.grownBy w' v.ownBlock → (v'.ownBlock = v.ownBlock ∨ v'.ownBlock = some w.heap.size) → (v' = .slice none 0 0 → v = .slice none 0 0) → wpList P ops Q rest (a.put o.dst v') w') : wpList P ops Q (o :: rest) a w :=
  wpList_plain hgd fun _ hK => wp_appK s x t ho B e z bytes ht hi hzs v xs news hs hown hx h1 hb hl hbase fun v' w' h1 h2 h3 h4 => hK _ _ (h v' w' h1 h2 h3 h4)

end Go.Proofs.YtgfknlkpdiejgaaDoor
