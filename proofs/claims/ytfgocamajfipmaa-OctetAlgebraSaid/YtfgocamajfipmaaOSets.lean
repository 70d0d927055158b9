/- A slice of sets as an argument, opened; append of sets; a row of sets of the call's own read as a list. No condition. -/
import Derived.Test.YtfgocamajfipmaaSetB
import Derived.Deep.Slices
import Derived.Laws.IdiomArrays
namespace Go.Proofs.Ytfgocamajfipmaa
open Go.RowKit Go.ChangeShapes Go.WideShapes Go.Deep
set_option maxRecDepth 100000

/-- Four words as cells. -/
def cS1 (p : Nat → Bool) : List Value := [u64v (wd p 0), u64v (wd p 1), u64v (wd p 2), u64v (wd p 3)]
theorem cS1_get (p : Nat → Bool) (i : Nat) (h : i < 4) : (cS1 p)[i]? = some (u64v (wd p i)) := by
  rcases (show i = 0 ∨ i = 1 ∨ i = 2 ∨ i = 3 from by omega) with rfl | rfl | rfl | rfl <;> rfl
/-- The sets' words as cells. -/
def cS : List (Nat → Bool) → List Value
  | [] => []
  | p :: r => cS1 p ++ cS r
theorem cS_len : ∀ ps, (cS ps).length = ps.length * 4
  | [] => rfl
  | p :: r => by
    show (cS1 p ++ cS r).length = _
    rw [List.length_append, cS_len r, List.length_cons, show (cS1 p).length = 4 from rfl]
    omega
theorem cS_app : ∀ ps qs, cS (ps ++ qs) = cS ps ++ cS qs
  | [], _ => rfl
  | p :: r, qs => by
    show cS1 p ++ cS (r ++ qs) = (cS1 p ++ cS r) ++ cS qs
    rw [cS_app r qs, List.append_assoc]
theorem cS_get : ∀ (ps : List (Nat → Bool)) (j i : Nat), j < ps.length → i < 4 → (cS ps)[j * 4 + i]? = some (u64v (wd (ps.getD j noB) i))
  | [], j, i, h, _ => absurd h (Nat.not_lt_zero _)
  | p :: r, 0, i, _, hi => by
    show (cS1 p ++ cS r)[0 * 4 + i]? = _
    rw [Nat.zero_mul, Nat.zero_add, List.getElem?_append_left (by show i < 4; exact hi), cS1_get p i hi]
    rfl
  | p :: r, j + 1, i, h, hi => by
    show (cS1 p ++ cS r)[(j + 1) * 4 + i]? = _
    have e : (j + 1) * 4 + i = (cS1 p).length + (j * 4 + i) := by show _ = 4 + (j * 4 + i); omega
    rw [e, List.getElem?_append_right (Nat.le_add_right _ _), Nat.add_sub_cancel_left, cS_get r j i (by simpa using h) hi]
    rfl
theorem cS_one (ps : List (Nat → Bool)) : ∀ u ∈ cS ps, u.oneCell' = true := by
  induction ps with
  | nil => intro u hu; cases hu
  | cons p r ih =>
    intro u hu
    rcases List.mem_append.1 hu with h | h
    · simp only [cS1, List.mem_cons, List.not_mem_nil, or_false] at h
      rcases h with rfl | rfl | rfl | rfl <;> rfl
    · exact ih u h
/-- What the cells of a list of sets' words hold, each by its number. -/
theorem cS_at {ps : List (Nat → Bool)} {f : Nat → Option Value} (h : ∀ j, j < ps.length → ∀ i, i < 4 → f (j * 4 + i) = some (u64v (wd (ps.getD j noB) i))) : ∀ k u, (cS ps)[k]? = some u → f k = some u := by
  intro k u hu
  have hk : k < ps.length * 4 := by
    have := (List.getElem?_eq_some_iff.1 hu).1
    rwa [cS_len] at this
  have e : k = k / 4 * 4 + k % 4 := by omega
  rw [e] at hu ⊢
  rw [cS_get _ _ _ (by omega) (by omega)] at hu
  rw [h _ (by omega) _ (by omega), ← hu]

/-- A row of sets that the call made. -/
def OwnS (w : World) (B : Nat) (e : TypeId) (v : Value) (ps : List (Nat → Bool)) : Prop := w.ownsRow B e 4 v ps.length (cS ps)
theorem OwnS.ext {w w' : World} {B : Nat} {e : TypeId} {v : Value} {ps : List (Nat → Bool)} (h : OwnS w B e v ps) (hx : Ext w w') : OwnS w' B e v ps := by
  obtain ⟨h1, h2⟩ := h
  refine ⟨h1, ?_⟩
  rcases h2 with h2 | ⟨g, cap, cur, hv, hg, hh, r⟩
  · exact .inl h2
  · exact .inr ⟨g, cap, cur, hv, hg, Blk.ext (t := e) (cs := cur) hh hx, r⟩
theorem OwnS.cells {w : World} {B : Nat} {e : TypeId} {g n cap : Nat} {ps : List (Nat → Bool)} (h : OwnS w B e (.slice (some ⟨g, 0, none⟩) n cap) ps) (j i : Nat) (hj : j < ps.length) (hi : i < 4) :
    w.cell? ⟨g, j * 4 + i, none⟩ = some (u64v (wd (ps.getD j noB) i)) := by
  have := World.ownsRow.cells (v := .slice (some ⟨g, 0, none⟩) n cap) h (g := g) (by
    rcases h.2 with ⟨h0, _⟩ | ⟨g', cap', cur, hv, _⟩
    · cases h0
    · simp only [Value.slice.injEq] at hv; obtain ⟨_, rfl, _⟩ := hv; rfl) (j * 4 + i) _ (cS_get ps j i hj hi)
  have ea : (⟨g, 0, none⟩ : Addr).add (j * 4 + i) = ⟨g, j * 4 + i, none⟩ := by unfold Addr.add; split <;> simp_all
  rwa [ea] at this

theorem wpList_appS {P : Program} {w : World} {ops : Array Oper} {rest : List Oper} {o : Oper} {a : Act} {Q : Exit → Act → World → Prop} (hgd : o.guard = none) (s x : Operand) (t : TypeId)
    (ho : o.op = .call { callee := .builtin .append, args := #[s, x], argTypes := #[t, t] })
    (B : Nat) (e : TypeId) (z : Value) (ht : P.underlying t = some (.slice e)) (hi : (P.info? e).map (fun i => (i.zero, i.size, i.bytes)) = some (some z, 4, 32)) (hzs : z.cells.size = 4)
    (v : Value) (ps qs : List (Nat → Bool)) (hs : a.eval s = v) (hown : OwnS w B e v ps)
    (ad : Addr) (m c : Nat) (hx : a.eval x = .slice (some ad) m c) (hm : qs.length = m) (hc : ∀ j u, (cS qs)[j]? = some u → w.cell? (ad.add j) = some u)
    (hb : (ps.length + m) * 32 ≤ 140737488355328) (hbase : B ≤ w.heap.size)
    (h : ∀ v' w', OwnS w' B e v' (ps ++ qs) → Below B w w' → (v' = .slice none 0 0 ↔ v = .slice none 0 0 ∧ m = 0) → wpList P ops Q rest (a.put o.dst v') w') : wpList P ops Q (o :: rest) a w := by
  obtain ⟨i, hi0, hz0, hz1, hz2⟩ := info_parts hi
  refine wpList_append_own_at w hgd s x t ho B e i z 4 32 ht hi0 hz0 hz1 hz2 hzs (by omega) v ps.length (cS ps) hs hown ad m c (cS qs) hx (by rw [cS_len, hm]) hc (cS_one qs) (by simp only [maxLen]; omega) hb hbase ?_
  intro v' w' ho' hg hn _
  exact h v' w' (by unfold OwnS; rw [cS_app, List.length_append, hm]; exact ho') ((Below.refl B w).grown hg hbase (fun k hk => (World.ownsRow.lt hown k hk).1)) hn

/-- 'append(s, nil...)' where s is no nil slice. -/
theorem run_append_no {P : Program} (w : World) (t ty e : TypeId) (i : TypeInfo) (ht : P.underlying t = some (.slice e)) (hi : P.info? e = some i) (g n cap : Nat) (hn : n ≤ cap) (hn2 : n = 0) :
    (Builtin.append_ #[t, t] ty #[.slice (some ⟨g, 0, none⟩) n cap, .slice none 0 0]).run P w = .ok (.slice (some ⟨g, 0, none⟩) n cap) w := by
  subst hn2
  simp [Builtin.append_, run_underlying ht, sizeOf, typeInfo, hi, Builtin.lenOf, Builtin.firstCells, loadCells, loadCellsFrom, storeCells]

/-- 'append([]api.Set{}, x...)' where x came in, nil or not. -/
theorem wpList_appS0 {P : Program} {w : World} {ops : Array Oper} {rest : List Oper} {o : Oper} {a : Act} {Q : Exit → Act → World → Prop} (hgd : o.guard = none) (s x : Operand) (t : TypeId)
    (ho : o.op = .call { callee := .builtin .append, args := #[s, x], argTypes := #[t, t] })
    (B : Nat) (e : TypeId) (z : Value) (ht : P.underlying t = some (.slice e)) (hi : (P.info? e).map (fun i => (i.zero, i.size, i.bytes)) = some (some z, 4, 32)) (hzs : z.cells.size = 4)
    (g : Nat) (qs : List (Nat → Bool)) (hs : a.eval s = .slice (some ⟨g, 0, none⟩) 0 0) (hown : OwnS w B e (.slice (some ⟨g, 0, none⟩) 0 0) [])
    (hx : (a.eval x = .slice none 0 0 ∧ qs = []) ∨ ∃ ad c, a.eval x = .slice (some ad) qs.length c ∧ ∀ j u, (cS qs)[j]? = some u → w.cell? (ad.add j) = some u)
    (hb : qs.length * 32 ≤ 140737488355328) (hbase : B ≤ w.heap.size)
    (h : ∀ v' w', OwnS w' B e v' qs → Below B w w' → wpList P ops Q rest (a.put o.dst v') w') : wpList P ops Q (o :: rest) a w := by
  rcases hx with ⟨hx, rfl⟩ | ⟨ad, c, hx, hc⟩
  · obtain ⟨i, hi0, hz0, hz1, hz2⟩ := info_parts hi
    refine wpList_plain hgd fun K hK => ?_
    unfold Oper.wp execOp
    simp only [ho, resolve, invoke, builtin, Sem.run_bind, Sem.run_pure, Result.andThen_ok, List.map_toArray, List.map_cons, List.map_nil, hs, hx, run_append_no w t o.type e i ht hi0 g 0 0 (Nat.le_refl _) rfl]
    exact hK _ _ (h _ _ hown (Below.refl _ _))
  · exact wpList_appS hgd s x t ho B e z ht hi hzs _ [] qs hs hown ad qs.length c hx rfl hc (by simpa using hb) hbase (fun v' w' h1 h2 _ => h v' w' (by simpa using h1) h2)

section
variable {H : Type} {enc : TypeId × Value → H} {w : World} {base : Nat} {spare : Nat → Bool} {held : Bool}
theorem cells_u64' : Try.prog.cellsOf 23 = 1 := by kernel_rfl
theorem cells_set' : Try.prog.cellsOf 25 = 4 := by kernel_rfl
theorem u64_nat' {n : Int} (h : (Lit.int .u64 n).wf = true) : ∃ k : Nat, n = (k : Int) ∧ k < 18446744073709551616 := by
  obtain ⟨h0, h1⟩ : 0 ≤ n ∧ n ≤ 18446744073709551615 := by simpa [Lit.wf, IntKind.min, IntKind.max, IntKind.signed, IntKind.bits] using h
  obtain ⟨k, rfl⟩ := Int.eq_ofNat_of_zero_le h0
  exact ⟨k, rfl, by omega⟩
/-- Four cells that read as a set are the words of some set. -/
theorem open_cells4 {n : Nat} {cs : List Value} {x : DataW H × List MemPlace} (hl : cs.length = 4) (h : DataW.trod enc Try.prog w base spare held n 25 cs = some x) : ∃ p : Nat → Bool, ∀ i, i < 4 → cs[i]? = some (u64v (wd p i)) := by
  obtain ⟨c0, c1, c2, c3, rfl⟩ : ∃ c0 c1 c2 c3, cs = [c0, c1, c2, c3] := by
    match cs, hl with
    | [c0, c1, c2, c3], _ => exact ⟨c0, c1, c2, c3, rfl⟩
  obtain ⟨y0, y1, y2, y3, n, he, h0, h1, h2, h3⟩ := trod_array4 Try.underlying25 cells_u64' h
  obtain ⟨n0, e0, x0, w0⟩ := DataW.trod_int Try.underlying23 h0
  obtain ⟨n1, e1, x1, w1⟩ := DataW.trod_int Try.underlying23 h1
  obtain ⟨n2, e2, x2, w2⟩ := DataW.trod_int Try.underlying23 h2
  obtain ⟨n3, e3, x3, w3⟩ := DataW.trod_int Try.underlying23 h3
  simp only [List.cons.injEq, and_true] at e0 e1 e2 e3
  subst e0 e1 e2 e3
  obtain ⟨k0, rfl, l0⟩ := u64_nat' w0
  obtain ⟨k1, rfl, l1⟩ := u64_nat' w1
  obtain ⟨k2, rfl, l2⟩ := u64_nat' w2
  obtain ⟨k3, rfl, l3⟩ := u64_nat' w3
  let a : Nat → Nat := fun i => if i = 0 then k0 else if i = 1 then k1 else if i = 2 then k2 else k3
  refine ⟨memOf a, fun i hi => ?_⟩
  rcases (show i = 0 ∨ i = 1 ∨ i = 2 ∨ i = 3 from by omega) with rfl | rfl | rfl | rfl
  · rw [wd_memOf a 0 (by simpa [a] using l0)]; rfl
  · rw [wd_memOf a 1 (by simpa [a] using l1)]; rfl
  · rw [wd_memOf a 2 (by simpa [a] using l2)]; rfl
  · rw [wd_memOf a 3 (by simpa [a] using l3)]; rfl

theorem add_none {a : Addr} (ha : a.spot = none) (k : Nat) : a.add k = ⟨a.block, a.off + k, none⟩ := by
  obtain ⟨b, o, s⟩ := a
  simp only at ha
  subst ha
  unfold Addr.add
  split <;> simp_all

/-- A slice of sets that came in: nil, or a row of sets. -/
theorem open_sets {r : Reach} {b0 : Nat} {v : Value} {d : DataW H} {qs : List MemPlace} (hval : Value.okWide Try.prog w r b0 22 v) (h : DataW.Trod enc Try.prog w base spare held 22 v d qs) :
    ∃ (ps : List (Nat → Bool)) (cap : Nat), RdS w v ps ∧ ((v = .slice none 0 0 ∧ ps = []) ∨ ∃ ad, v = .slice (some ad) ps.length cap ∧ ps.length ≤ cap ∧ ∀ j u, (cS ps)[j]? = some u → w.cell? (ad.add j) = some u) := by
  obtain ⟨a0, l0, c0, rfl⟩ := okWide_slice Try.underlying22 hval
  obtain ⟨fuel, hf⟩ := h
  rcases open_slice (fuel := fuel) Try.underlying22 hf with ⟨h0, _⟩ | ⟨a, len, cap, m, n, D, Pl, h0, hb, hl, hm, hmm, _, hx⟩
  · have h0 : Value.slice a0 l0 c0 = .slice none 0 0 := by injection h0
    rw [h0]
    exact ⟨[], 0, ⟨none, 0, rfl, fun j hj => absurd hj (Nat.not_lt_zero j)⟩, .inl ⟨rfl, rfl⟩⟩
  · have h0 : Value.slice a0 l0 c0 = .slice (some a) len cap := by injection h0
    rw [h0]
    have hlm : len ≤ m := by rw [hmm]; split <;> omega
    obtain ⟨F, hF⟩ := choose_lt (α := Nat → Bool) (n := len) (p := fun j p => ∀ i, i < 4 → w.cell? (a.add (j * 4 + i)) = some (u64v (wd p i))) (fun j hj => by
      obtain ⟨cs', h1, h2⟩ := hx j (by omega)
      rw [cells_set'] at h1
      obtain ⟨_, h3, h4⟩ := World.cells?_some h1
      obtain ⟨p, hp⟩ := open_cells4 h3 h2
      refine ⟨p, fun i hi => ?_⟩
      rw [← hp i hi, ← h4 i hi]
      congr 1
      unfold Addr.add
      split <;> split <;> split <;> simp_all <;> omega)
    have hg : ∀ j, j < len → ((List.range len).map F).getD j noB = F j := fun j hj => by
      rw [List.getD_eq_getElem?_getD, List.getElem?_map, List.getElem?_range hj]; rfl
    have hlen : ((List.range len).map F).length = len := by simp
    refine ⟨(List.range len).map F, cap, ⟨some a, cap, by rw [hlen], fun j hj => ?_⟩, .inr ⟨a, by rw [hlen], by rw [hlen]; exact hl, ?_⟩⟩
    · rw [hlen] at hj
      have hsp : a.spot = none := by simpa [Addr.add] using World.cell?_spot (hF 0 (by omega) 0 (by omega))
      refine ⟨a.block, a.off, ?_, fun i hi => ?_⟩
      · obtain ⟨b, o, s⟩ := a; simp only at hsp; subst hsp; rfl
      · have := hF j hj i hi
        rw [add_none hsp] at this
        rw [hg j hj, Nat.add_assoc]
        exact this
    · exact cS_at (f := fun k => w.cell? (a.add k)) fun j hj i hi => by rw [hlen] at hj; rw [hg j hj]; exact hF j hj i hi
end

end Go.Proofs.Ytfgocamajfipmaa
