/- Arguments of types []string and api.Options opened: what lies in memory, and how long it may be. No condition. -/
import Derived.Test.YtkcgbdoplhgbmaaDoorOSa
import Derived.SliceStrings
import Derived.SizedLaws
import Derived.OpenShut
namespace Go.Proofs.YtkcgbdoplhgbmaaDoor
open Go Go.RowKit Go.ChangeShapes Go.WideShapes Go.ChangeAt Go.Deep
set_option maxRecDepth 100000

section
variable {H : Type} {enc : TypeId × Value → H} {w : World} {base : Nat} {spare : Nat → Bool} {held : Bool}
theorem cell_str : Tryd.prog.cellsOf 9 = 1 := by kernel_rfl
theorem cell_strs : Tryd.prog.cellsOf 43 = 1 := by kernel_rfl
theorem cell_int1 : Tryd.prog.cellsOf 3 = 1 := by kernel_rfl
theorem cell_bool1 : Tryd.prog.cellsOf 4 = 1 := by kernel_rfl
theorem cell_opts : Tryd.prog.cellsOf 46 = 9 := by kernel_rfl
/-- What a datum of a slice of texts is. -/
def TxtD (d : DataW H) (ws : List ByteArray) : Prop := ws = [] ∨ ∃ sp, d = .slice (strs ws) sp
/-- A slice is nil and nothing else, or has a place. -/
def NilZ (v : Value) : Prop := v = .slice none 0 0 ∨ ∃ ad n c, v = .slice (some ad) n c
theorem open_texts_cs {fuel : Nat} {cs : List Value} {x : DataW H × List MemPlace} (hf : DataW.trod enc Tryd.prog w base spare held fuel 43 cs = some x) :
    ∃ v ws, cs = [v] ∧ RdT w v ws ∧ TxtD x.1 ws ∧ NilZ v := by
  rcases open_strings Tryd.underlying43 Tryd.underlying9 cell_str hf with ⟨h0, _⟩ | ⟨a, len, cap, ss, h0, _, hl, _, hz, hx, hc, hw⟩
  · exact ⟨_, [], h0, ⟨none, 0, rfl, Nat.le_refl _, fun j hj => absurd hj (Nat.not_lt_zero j)⟩, .inl rfl, .inl rfl⟩
  · have hlz : len ≤ ss.length := by rw [hz]; split <;> omega
    have hbl : (ss.take len).length = len := by simp; omega
    refine ⟨_, ss.take len, h0, ⟨some a, cap, by rw [hbl], by rw [hbl]; exact hl, fun j hj => ?_⟩, .inr ⟨_, by rw [hx]⟩, .inr ⟨_, _, _, rfl⟩⟩
    rw [hbl] at hj
    have h1 := hc j (by omega)
    have hs : a.spot = none := by simpa [Addr.add] using World.cell?_spot (hc 0 (by omega))
    obtain ⟨b, o, s⟩ := a
    simp only at hs
    subst hs
    refine ⟨b, o, rfl, ?_⟩
    rw [add_plain] at h1
    rw [h1, List.getD_eq_getElem?_getD, List.getD_eq_getElem?_getD, List.getElem?_take, if_pos hj]
    rfl
theorem open_texts {r : Reach} {b0 : Nat} {v : Value} {d : DataW H} {qs : List MemPlace} (hval : Value.okWide Tryd.prog w r b0 43 v) (h : DataW.Trod enc Tryd.prog w base spare held 43 v d qs) :
    ∃ ws, RdT w v ws ∧ TxtD d ws ∧ NilZ v := by
  obtain ⟨a0, l0, c0, rfl⟩ := okWide_slice Tryd.underlying43 hval
  obtain ⟨fuel, hf⟩ := h
  obtain ⟨v, ws, h1, h2, h3, h4⟩ := open_texts_cs hf
  have h1 : Value.slice a0 l0 c0 = v := by injection h1
  rw [h1]
  exact ⟨ws, h2, h3, h4⟩
theorem strs_weigh (e : TypeId) : ∀ (ss : List ByteArray) (s : ByteArray), s ∈ ss → s.size ∈ DataW.weightsAll Tryd.prog e (strs (H := H) ss)
  | [], s, h => by cases h
  | x :: r, s, h => by
    unfold strs
    simp only [List.map_cons, DataW.weightsAll, DataW.weights, List.mem_append, List.mem_cons, List.not_mem_nil, or_false]
    rcases List.mem_cons.1 h with rfl | h
    · left
      exact (show s.size = s.data.toList.length from (Array.length_toList (xs := s.data)).symm)
    · right
      exact strs_weigh e r s h
theorem texts_weigh {d : DataW H} {ws : List ByteArray} (hd : TxtD d ws) (h : ∀ n ∈ d.weights Tryd.prog 43, n ≤ reachBytes) : ws.length ≤ 1000000000000000 ∧ ∀ x ∈ ws, x.size ≤ 1000000000000000 := by
  have h2 : reachBytes = 140737488351232 := by decide
  rcases hd with rfl | ⟨sp, rfl⟩
  · exact ⟨by simp, fun x hx => by cases hx⟩
  · have hbs : Tryd.prog.bytesOf 9 = 16 := by kernel_rfl
    refine ⟨?_, fun x hx => ?_⟩
    · have h1 := h ((ws.length + sp.length) * 16) (by simp [DataW.weights, Tryd.underlying43, hbs, strs])
      omega
    · have h1 := h x.size (by
        simp only [DataW.weights, Tryd.underlying43, List.mem_cons, List.mem_append]
        exact .inr (.inl (strs_weigh _ ws x hx)))
      omega
theorem texts_small {ts : List TypeId} {ds : List (DataW H)} (h : (DataW.weightsEach Tryd.prog ts ds).all (· ≤ reachBytes) = true) {j : Nat} {d : DataW H} (ht : ts[j]? = some 43) (hd : ds[j]? = some d) {ws : List ByteArray} (hw : TxtD d ws) :
    ws.length ≤ 1000000000000000 ∧ ∀ x ∈ ws, x.size ≤ 1000000000000000 :=
  texts_weigh hw fun _ hn => of_decide_eq_true (List.all_eq_true.1 h _ (DataW.weights_mem_each ht hd _ hn))

/-- What a datum of options is. -/
def OptD (d : DataW H) (ws : List ByteArray) : Prop := ∃ ps dd, d = .agg ps ∧ ps[8]? = some dd ∧ TxtD dd ws
theorem open_opts {r : Reach} {b0 : Nat} {v : Value} {d : DataW H} {qs : List MemPlace} (hval : Value.okWide Tryd.prog w r b0 46 v) (h : DataW.Trod enc Tryd.prog w base spare held 46 v d qs) :
    ∃ (o : Ops) (pv : Value) (ws : List ByteArray), v = opV o pv ∧ RdT w pv ws ∧ ws.map byB = o.pats ∧ OptD d ws ∧ NilZ pv ∧ (-9223372036854775808 ≤ o.fl ∧ o.fl ≤ 9223372036854775807) ∧ (-9223372036854775808 ≤ o.md ∧ o.md ≤ 9223372036854775807) ∧ (-9223372036854775808 ≤ o.most ∧ o.most ≤ 9223372036854775807) := by
  obtain ⟨cs, rfl, hsz⟩ := okWide_struct Tryd.underlying46 hval
  obtain ⟨fuel, hf⟩ := h
  obtain ⟨xs, m, rfl, hxd, hl, hxs, hf⟩ := DataW.trod_struct Tryd.underlying46 hf
  obtain ⟨l⟩ := cs
  have hl : l.length = 9 := by rw [cell_opts] at hl; simpa [Value.cells] using hl
  obtain ⟨c0, c1, c2, c3, c4, c5, c6, c7, c8, rfl⟩ : ∃ c0 c1 c2 c3 c4 c5 c6 c7 c8, l = [c0, c1, c2, c3, c4, c5, c6, c7, c8] := by
    match l, hl with
    | [c0, c1, c2, c3, c4, c5, c6, c7, c8], _ => exact ⟨c0, c1, c2, c3, c4, c5, c6, c7, c8, rfl⟩
  have hs : ∀ i, i < 9 → ∃ y, xs[i]? = some y := fun i hi => ⟨_, List.getElem?_eq_getElem (by rw [hxs]; exact hi)⟩
  have f0 : DataW.trod enc Tryd.prog w base spare held m 3 (List.take (Tryd.prog.cellsOf 3) (List.drop 0 [c0, c1, c2, c3, c4, c5, c6, c7, c8])) = xs[0]? := hf 0 _ rfl
  have f1 : DataW.trod enc Tryd.prog w base spare held m 3 (List.take (Tryd.prog.cellsOf 3) (List.drop 1 [c0, c1, c2, c3, c4, c5, c6, c7, c8])) = xs[1]? := hf 1 _ rfl
  have f2 : DataW.trod enc Tryd.prog w base spare held m 4 (List.take (Tryd.prog.cellsOf 4) (List.drop 2 [c0, c1, c2, c3, c4, c5, c6, c7, c8])) = xs[2]? := hf 2 _ rfl
  have f3 : DataW.trod enc Tryd.prog w base spare held m 4 (List.take (Tryd.prog.cellsOf 4) (List.drop 3 [c0, c1, c2, c3, c4, c5, c6, c7, c8])) = xs[3]? := hf 3 _ rfl
  have f4 : DataW.trod enc Tryd.prog w base spare held m 4 (List.take (Tryd.prog.cellsOf 4) (List.drop 4 [c0, c1, c2, c3, c4, c5, c6, c7, c8])) = xs[4]? := hf 4 _ rfl
  have f5 : DataW.trod enc Tryd.prog w base spare held m 4 (List.take (Tryd.prog.cellsOf 4) (List.drop 5 [c0, c1, c2, c3, c4, c5, c6, c7, c8])) = xs[5]? := hf 5 _ rfl
  have f6 : DataW.trod enc Tryd.prog w base spare held m 4 (List.take (Tryd.prog.cellsOf 4) (List.drop 6 [c0, c1, c2, c3, c4, c5, c6, c7, c8])) = xs[6]? := hf 6 _ rfl
  have f7 : DataW.trod enc Tryd.prog w base spare held m 3 (List.take (Tryd.prog.cellsOf 3) (List.drop 7 [c0, c1, c2, c3, c4, c5, c6, c7, c8])) = xs[7]? := hf 7 _ rfl
  have f8 : DataW.trod enc Tryd.prog w base spare held m 43 (List.take (Tryd.prog.cellsOf 43) (List.drop 8 [c0, c1, c2, c3, c4, c5, c6, c7, c8])) = xs[8]? := hf 8 _ rfl
  obtain ⟨y0, hy0⟩ := hs 0 (by omega)
  obtain ⟨y1, hy1⟩ := hs 1 (by omega)
  obtain ⟨y2, hy2⟩ := hs 2 (by omega)
  obtain ⟨y3, hy3⟩ := hs 3 (by omega)
  obtain ⟨y4, hy4⟩ := hs 4 (by omega)
  obtain ⟨y5, hy5⟩ := hs 5 (by omega)
  obtain ⟨y6, hy6⟩ := hs 6 (by omega)
  obtain ⟨y7, hy7⟩ := hs 7 (by omega)
  obtain ⟨y8, hy8⟩ := hs 8 (by omega)
  rw [hy0] at f0
  rw [hy1] at f1
  rw [hy2] at f2
  rw [hy3] at f3
  rw [hy4] at f4
  rw [hy5] at f5
  rw [hy6] at f6
  rw [hy7] at f7
  rw [hy8] at f8
  simp only [cell_int1, cell_bool1, cell_strs, List.drop_succ_cons, List.drop_zero, List.take_succ_cons, List.take_zero] at f0 f1 f2 f3 f4 f5 f6 f7 f8
  obtain ⟨n0, e0, _, r0⟩ := DataW.trod_int Tryd.underlying3 f0
  obtain ⟨n1, e1, _, r1⟩ := DataW.trod_int Tryd.underlying3 f1
  obtain ⟨b2, e2, _⟩ := DataW.trod_bool Tryd.underlying4 f2
  obtain ⟨b3, e3, _⟩ := DataW.trod_bool Tryd.underlying4 f3
  obtain ⟨b4, e4, _⟩ := DataW.trod_bool Tryd.underlying4 f4
  obtain ⟨b5, e5, _⟩ := DataW.trod_bool Tryd.underlying4 f5
  obtain ⟨b6, e6, _⟩ := DataW.trod_bool Tryd.underlying4 f6
  obtain ⟨n7, e7, _, r7⟩ := DataW.trod_int Tryd.underlying3 f7
  obtain ⟨pv, ws, e8, hr, hd, hz⟩ := open_texts_cs f8
  simp only [List.cons.injEq, and_true] at e0 e1 e2 e3 e4 e5 e6 e7 e8
  subst e0 e1 e2 e3 e4 e5 e6 e7 e8
  refine ⟨⟨n0, n1, b2, b3, b4, b5, b6, n7, ws.map byB⟩, c8, ws, rfl, hr, rfl, ⟨xs.map (·.1), y8.1, congrArg Prod.fst hxd, by rw [List.getElem?_map, hy8]; rfl, hd⟩, hz, ?_, ?_, ?_⟩
  · simpa [Lit.wf, IntKind.min, IntKind.max, IntKind.signed, IntKind.bits] using r0
  · simpa [Lit.wf, IntKind.min, IntKind.max, IntKind.signed, IntKind.bits] using r1
  · simpa [Lit.wf, IntKind.min, IntKind.max, IntKind.signed, IntKind.bits] using r7
theorem opts_small {ts : List TypeId} {ds : List (DataW H)} (h : (DataW.weightsEach Tryd.prog ts ds).all (· ≤ reachBytes) = true) {j : Nat} {d : DataW H} (ht : ts[j]? = some 46) (hd : ds[j]? = some d) {ws : List ByteArray} (hw : OptD d ws) :
    ws.length ≤ 1000000000000000 ∧ ∀ x ∈ ws, x.size ≤ 1000000000000000 := by
  obtain ⟨ps, dd, rfl, h8, ht8⟩ := hw
  refine texts_weigh ht8 fun _ hn => of_decide_eq_true (List.all_eq_true.1 h _ (DataW.weights_mem_each ht hd _ ?_))
  simp only [DataW.weights, Tryd.underlying46]
  exact DataW.weights_mem_each (j := 8) rfl h8 _ hn
end

end Go.Proofs.YtkcgbdoplhgbmaaDoor
