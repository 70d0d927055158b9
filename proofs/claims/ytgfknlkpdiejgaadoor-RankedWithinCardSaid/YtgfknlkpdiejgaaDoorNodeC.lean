/- Trees in memory whose lists have no more elements than room; an argument of type api.Node opened so. No condition. -/
import Derived.Test.YtgfknlkpdiejgaaDoorNodeO
import Derived.Test.YtgfknlkpdiejgaaDoorNodeW
namespace Go.Proofs.YtgfknlkpdiejgaaDoor
open Go Go.RowKit Go.ChangeShapes Go.WideShapes Go.ChangeAt Go.Deep

mutual
def NdCap (W : World) : Nd → Value → Prop
  | .mk _ subs, sv => ∃ A c, sv = .slice A subs.length c ∧ subs.length ≤ c ∧ NdsCap W subs A 0
def NdsCap (W : World) : List Nd → Option Addr → Nat → Prop
  | [], _, _ => True
  | n :: r, A, k => (∃ g o sv, A = some ⟨g, o, none⟩ ∧ (∀ i, i < 10 → W.cell? ⟨g, o + k * 10 + i, none⟩ = (nodeC n.h sv)[i]?) ∧ NdCap W n sv) ∧ NdsCap W r A (k + 1)
end
mutual
theorem NdCap.ok {W : World} : ∀ {n : Nd} {sv : Value}, NdCap W n sv → NdOk W n sv
  | .mk _ _, _, ⟨A, c, h1, _, h2⟩ => ⟨A, c, h1, NdsCap.ok h2⟩
theorem NdsCap.ok {W : World} : ∀ {l : List Nd} {A : Option Addr} {k : Nat}, NdsCap W l A k → NdsOk W l A k
  | [], _, _, _ => trivial
  | _ :: _, _, _, ⟨⟨g, o, sv, h1, h2, h3⟩, h4⟩ => ⟨⟨g, o, sv, h1, h2, NdCap.ok h3⟩, NdsCap.ok h4⟩
end
mutual
theorem NdCap.ext {W W' : World} (hx : Ext W W') : ∀ {n : Nd} {sv : Value}, NdCap W n sv → NdCap W' n sv
  | .mk _ _, _, ⟨A, c, h1, h0, h2⟩ => ⟨A, c, h1, h0, NdsCap.ext hx h2⟩
theorem NdsCap.ext {W W' : World} (hx : Ext W W') : ∀ {l : List Nd} {A : Option Addr} {k : Nat}, NdsCap W l A k → NdsCap W' l A k
  | [], _, _, _ => trivial
  | n :: _, _, _, ⟨⟨g, o, sv, h1, h2, h3⟩, h4⟩ => ⟨⟨g, o, sv, h1, fun i hi => (by
      have e := h2 i hi
      have hs : (nodeC n.h sv)[i]? = some (nodeC n.h sv)[i] := List.getElem?_eq_getElem (by simpa [nodeC] using hi)
      rw [hs] at e ⊢
      exact hx.cell e), NdCap.ext hx h3⟩, NdsCap.ext hx h4⟩
end
theorem NdsCap.get {W : World} : ∀ {l : List Nd} {A : Option Addr} {k : Nat}, NdsCap W l A k → ∀ j (hj : j < l.length), ∃ g o sv, A = some ⟨g, o, none⟩ ∧ (∀ i, i < 10 → W.cell? ⟨g, o + (k + j) * 10 + i, none⟩ = (nodeC (l[j]).h sv)[i]?) ∧ NdCap W l[j] sv
  | [], _, _, _, j, hj => absurd hj (Nat.not_lt_zero _)
  | _ :: _, _, _, ⟨h1, _⟩, 0, _ => h1
  | _ :: r, A, k, ⟨_, h2⟩, j + 1, hj => by
    obtain ⟨g, o, sv, h3, h4, h5⟩ := NdsCap.get h2 j (by simpa using hj)
    refine ⟨g, o, sv, h3, fun i hi => ?_, h5⟩
    rw [show k + (j + 1) = k + 1 + j by omega]
    exact h4 i hi
theorem NdsCap.of {W : World} {A : Option Addr} : ∀ {l : List Nd} {k : Nat}, (∀ j (hj : j < l.length), ∃ g o sv, A = some ⟨g, o, none⟩ ∧ (∀ i, i < 10 → W.cell? ⟨g, o + (k + j) * 10 + i, none⟩ = (nodeC (l[j]).h sv)[i]?) ∧ NdCap W l[j] sv) → NdsCap W l A k
  | [], _, _ => trivial
  | n :: r, k, h => ⟨h 0 (by simp), NdsCap.of (k := k + 1) fun j hj => by
    obtain ⟨g, o, sv, h3, h4, h5⟩ := h (j + 1) (by simpa using hj)
    refine ⟨g, o, sv, h3, fun i hi => ?_, h5⟩
    rw [show k + 1 + j = k + (j + 1) by omega]
    exact h4 i hi⟩
theorem NdCap.room {W : World} {h : Hd} {subs : List Nd} {A : Option Addr} {n c : Nat} (hn : NdCap W (.mk h subs) (.slice A n c)) : n = subs.length ∧ subs.length ≤ c := by
  obtain ⟨A', c', e, h0, _⟩ := hn
  injection e with e1 e2 e3
  subst e3
  exact ⟨e2, h0⟩
theorem NdCap.get {W : World} {h : Hd} {subs : List Nd} {A : Option Addr} {n c : Nat} (hn : NdCap W (.mk h subs) (.slice A n c)) (k : Nat) (hk : k < subs.length) :
    ∃ g o sv, A = some ⟨g, o, none⟩ ∧ NdAt W g (o + k * 10) (subs[k]).h sv ∧ NdCap W subs[k] sv := by
  unfold NdCap at hn
  obtain ⟨A', c', e, _, hs⟩ := hn
  injection e with e1 e2 e3
  subst e1
  obtain ⟨g, o, sv, h1, h2, h3⟩ := hs.get k hk
  exact ⟨g, o, sv, h1, fun i hi => by have := h2 i hi; rwa [Nat.zero_add] at this, h3⟩
/-- The list of one of them, cut out. -/
theorem NdCap.cut {W : World} {h h' : Hd} {subs : List Nd} {g o n c : Nat} (hn : NdCap W (.mk h subs) (.slice (some ⟨g, o, none⟩) n c)) (k : Nat) (hk : k < subs.length) (c' : Nat) (hc : 1 ≤ c') : NdCap W (.mk h' [subs[k]]) (.slice (some ⟨g, o + k * 10, none⟩) 1 c') := by
  obtain ⟨g1, o1, sv, e, h1, h2⟩ := hn.get k hk
  simp only [Option.some.injEq, Addr.mk.injEq, and_true] at e
  obtain ⟨rfl, rfl⟩ := e
  unfold NdCap
  refine ⟨_, c', rfl, hc, ⟨g, o + k * 10, sv, rfl, fun i hi => ?_, h2⟩, trivial⟩
  have := h1 i hi
  rwa [Nat.zero_mul, Nat.add_zero]
section
variable {H : Type} {enc : TypeId × Value → H} {w : World} {base : Nat} {spare : Nat → Bool} {held : Bool}
set_option maxRecDepth 100000 in
theorem open_cap_cs : ∀ (F : Nat) (cs : List Value) (x : DataW H × List MemPlace), DataW.trod enc Tryd.prog w base spare held F 27 cs = some x → ∃ (n : Nd) (sv : Value), cs = nodeC n.h sv ∧ NdCap w n sv := fun F => by
  induction F using Nat.strongRecOn with
  | ind F ih =>
    intro cs x h
    obtain ⟨xs, m, rfl, _, hl, hxs, hf⟩ := DataW.trod_struct Tryd.underlying27 h
    rw [cells_node] at hl
    obtain ⟨c0, c1, c2, c3, c4, c5, c6, c7, c8, c9, rfl⟩ : ∃ c0 c1 c2 c3 c4 c5 c6 c7 c8 c9, cs = [c0, c1, c2, c3, c4, c5, c6, c7, c8, c9] := by
      match cs, hl with
      | [c0, c1, c2, c3, c4, c5, c6, c7, c8, c9], _ => exact ⟨c0, c1, c2, c3, c4, c5, c6, c7, c8, c9, rfl⟩
    have hs : ∀ i, i < 7 → ∃ y, xs[i]? = some y := fun i hi => ⟨_, List.getElem?_eq_getElem (by rw [hxs]; exact hi)⟩
    have f0 : DataW.trod enc Tryd.prog w base spare held m 3 (List.take (Tryd.prog.cellsOf 3) (List.drop 0 [c0, c1, c2, c3, c4, c5, c6, c7, c8, c9])) = xs[0]? := hf 0 _ rfl
    have f1 : DataW.trod enc Tryd.prog w base spare held m 24 (List.take (Tryd.prog.cellsOf 24) (List.drop 1 [c0, c1, c2, c3, c4, c5, c6, c7, c8, c9])) = xs[1]? := hf 1 _ rfl
    have f2 : DataW.trod enc Tryd.prog w base spare held m 25 (List.take (Tryd.prog.cellsOf 25) (List.drop 5 [c0, c1, c2, c3, c4, c5, c6, c7, c8, c9])) = xs[2]? := hf 2 _ rfl
    have f3 : DataW.trod enc Tryd.prog w base spare held m 3 (List.take (Tryd.prog.cellsOf 3) (List.drop 6 [c0, c1, c2, c3, c4, c5, c6, c7, c8, c9])) = xs[3]? := hf 3 _ rfl
    have f4 : DataW.trod enc Tryd.prog w base spare held m 3 (List.take (Tryd.prog.cellsOf 3) (List.drop 7 [c0, c1, c2, c3, c4, c5, c6, c7, c8, c9])) = xs[4]? := hf 4 _ rfl
    have f5 : DataW.trod enc Tryd.prog w base spare held m 3 (List.take (Tryd.prog.cellsOf 3) (List.drop 8 [c0, c1, c2, c3, c4, c5, c6, c7, c8, c9])) = xs[5]? := hf 5 _ rfl
    have f6 : DataW.trod enc Tryd.prog w base spare held m 4 (List.take (Tryd.prog.cellsOf 4) (List.drop 9 [c0, c1, c2, c3, c4, c5, c6, c7, c8, c9])) = xs[6]? := hf 6 _ rfl
    obtain ⟨y0, hy0⟩ := hs 0 (by omega)
    obtain ⟨y1, hy1⟩ := hs 1 (by omega)
    obtain ⟨y2, hy2⟩ := hs 2 (by omega)
    obtain ⟨y3, hy3⟩ := hs 3 (by omega)
    obtain ⟨y4, hy4⟩ := hs 4 (by omega)
    obtain ⟨y5, hy5⟩ := hs 5 (by omega)
    obtain ⟨y6, hy6⟩ := hs 6 (by omega)
    rw [hy0] at f0
    rw [hy1] at f1
    rw [hy2] at f2
    rw [hy3] at f3
    rw [hy4] at f4
    rw [hy5] at f5
    rw [hy6] at f6
    simp only [cells_inti, cells_seti, cells_nodes, cells_booli, List.drop_succ_cons, List.drop_zero, List.take_succ_cons, List.take_zero] at f0 f1 f2 f3 f4 f5 f6
    obtain ⟨n0, e0, _, _⟩ := DataW.trod_int Tryd.underlying3 f0
    obtain ⟨p, rfl, rfl, rfl, rfl⟩ := open_words f1
    obtain ⟨n3, e3, _, _⟩ := DataW.trod_int Tryd.underlying3 f3
    obtain ⟨n4, e4, _, _⟩ := DataW.trod_int Tryd.underlying3 f4
    obtain ⟨n5, e5, _, _⟩ := DataW.trod_int Tryd.underlying3 f5
    obtain ⟨b6, e6, _⟩ := DataW.trod_bool Tryd.underlying4 f6
    simp only [List.cons.injEq, and_true] at e0 e3 e4 e5 e6
    subst e0 e3 e4 e5 e6
    rcases DataW.trod_slice Tryd.underlying25 f2 with ⟨e, _⟩ | ⟨a, len, cap, elems, rest, k, rfl, e, _, _, hlc, _, hel, hget, _, _⟩
    · simp only [List.cons.injEq, and_true] at e
      subst e
      exact ⟨.mk ⟨n0, p, n3, n4, n5, b6⟩ [], _, rfl, none, 0, rfl, Nat.le_refl _, trivial⟩
    · simp only [List.cons.injEq, and_true] at e
      subst e
      rw [cells_node] at hget
      obtain ⟨Fn, hFn⟩ := choose_lt (α := Nd) (n := len) (p := fun j n => ∃ sv, (∀ i, i < 10 → w.cell? (a.add (j * 10 + i)) = (nodeC n.h sv)[i]?) ∧ NdCap w n sv) (fun j hj => by
        have h1 := hget j hj
        rw [List.getElem?_eq_getElem (by omega), Option.bind_eq_some_iff] at h1
        obtain ⟨cs', h2, h3⟩ := h1
        obtain ⟨_, _, h5⟩ := World.cells?_some h2
        obtain ⟨n, sv, rfl, hok⟩ := ih k (by omega) cs' _ h3
        refine ⟨n, sv, fun i hi => ?_, hok⟩
        rw [← h5 i hi]
        congr 1
        unfold Addr.add
        split <;> split <;> split <;> simp_all <;> omega)
      refine ⟨.mk ⟨n0, p, n3, n4, n5, b6⟩ ((List.range len).map Fn), _, rfl, some a, cap, by simp, by simpa using hlc, NdsCap.of fun j hj => ?_⟩
      simp only [List.length_map, List.length_range] at hj
      obtain ⟨sv, h1, h2⟩ := hFn j hj
      have hsp : a.spot = none := by
        obtain ⟨sv0, h3, _⟩ := hFn 0 (by omega)
        simpa [Addr.add] using World.cell?_spot (show w.cell? (a.add (0 * 10 + 0)) = some _ from h3 0 (by omega))
      refine ⟨a.block, a.off, sv, ?_, fun i hi => ?_, by simpa using h2⟩
      · obtain ⟨b, o, s⟩ := a; simp only at hsp; subst hsp; rfl
      · have := h1 i hi
        have ea : a.add (j * 10 + i) = ⟨a.block, a.off + (0 + j) * 10 + i, none⟩ := by
          obtain ⟨b, o, s⟩ := a
          simp only at hsp
          subst hsp
          unfold Addr.add
          split <;> simp_all <;> omega
        rw [ea] at this
        simpa using this
set_option maxRecDepth 100000 in
theorem open_cap {r : Reach} {b0 : Nat} {v : Value} {d : DataW H} {qs : List MemPlace} (hval : Value.okWide Tryd.prog w r b0 27 v) (h : DataW.Trod enc Tryd.prog w base spare held 27 v d qs) : ∃ (n : Nd) (sv : Value), v = nodeV n.h sv ∧ NdCap w n sv := by
  obtain ⟨cs, rfl, hsz⟩ := okWide_struct Tryd.underlying27 hval
  obtain ⟨fuel, hf⟩ := h
  obtain ⟨n, sv, h1, h2⟩ := open_cap_cs fuel _ _ hf
  refine ⟨n, sv, ?_, h2⟩
  obtain ⟨l⟩ := cs
  have h1 : l = nodeC n.h sv := by simpa [Value.cells] using h1
  subst h1
  rfl
end
end Go.Proofs.YtgfknlkpdiejgaaDoor
