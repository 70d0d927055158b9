/- An argument of type api.Parse opened: it is a parse in memory. No condition. -/
import Derived.Test.YthddlhpndaffjaaDoorPsP
import Derived.Test.YthddlhpndaffjaaDoorNodeO
namespace Go.Proofs.YthddlhpndaffjaaDoor
open Go Go.RowKit Go.ChangeShapes Go.WideShapes Go.ChangeAt Go.Deep

section
variable {H : Type} {enc : TypeId × Value → H} {w : World} {base : Nat} {spare : Nat → Bool} {held : Bool}
theorem cells_parse : Tryd.prog.cellsOf 60 = 4 := by kernel_rfl
theorem cells_parses : Tryd.prog.cellsOf 58 = 1 := by kernel_rfl
set_option maxRecDepth 100000 in
theorem open_parse_cs : ∀ (F : Nat) (cs : List Value) (x : DataW H × List MemPlace), DataW.trod enc Tryd.prog w base spare held F 60 cs = some x → ∃ (n : Ps) (sv : Value), cs = psC n.d sv ∧ PsOk w n sv := fun F => by
  induction F using Nat.strongRecOn with
  | ind F ih =>
    intro cs x h
    obtain ⟨xs, m, rfl, _, hl, hxs, hf⟩ := DataW.trod_struct Tryd.underlying60 h
    rw [cells_parse] at hl
    obtain ⟨c0, c1, c2, c3, rfl⟩ : ∃ c0 c1 c2 c3, cs = [c0, c1, c2, c3] := by
      match cs, hl with
      | [c0, c1, c2, c3], _ => exact ⟨c0, c1, c2, c3, rfl⟩
    have hs : ∀ i, i < 4 → ∃ y, xs[i]? = some y := fun i hi => ⟨_, List.getElem?_eq_getElem (by rw [hxs]; exact hi)⟩
    have f0 : DataW.trod enc Tryd.prog w base spare held m 3 (List.take (Tryd.prog.cellsOf 3) (List.drop 0 [c0, c1, c2, c3])) = xs[0]? := hf 0 _ rfl
    have f1 : DataW.trod enc Tryd.prog w base spare held m 3 (List.take (Tryd.prog.cellsOf 3) (List.drop 1 [c0, c1, c2, c3])) = xs[1]? := hf 1 _ rfl
    have f2 : DataW.trod enc Tryd.prog w base spare held m 3 (List.take (Tryd.prog.cellsOf 3) (List.drop 2 [c0, c1, c2, c3])) = xs[2]? := hf 2 _ rfl
    have f3 : DataW.trod enc Tryd.prog w base spare held m 58 (List.take (Tryd.prog.cellsOf 58) (List.drop 3 [c0, c1, c2, c3])) = xs[3]? := hf 3 _ rfl
    obtain ⟨y0, hy0⟩ := hs 0 (by omega)
    obtain ⟨y1, hy1⟩ := hs 1 (by omega)
    obtain ⟨y2, hy2⟩ := hs 2 (by omega)
    obtain ⟨y3, hy3⟩ := hs 3 (by omega)
    rw [hy0] at f0
    rw [hy1] at f1
    rw [hy2] at f2
    rw [hy3] at f3
    simp only [cells_inti, cells_parses, List.drop_succ_cons, List.drop_zero, List.take_succ_cons, List.take_zero] at f0 f1 f2 f3
    obtain ⟨n0, e0, _, _⟩ := DataW.trod_int Tryd.underlying3 f0
    obtain ⟨n1, e1, _, _⟩ := DataW.trod_int Tryd.underlying3 f1
    obtain ⟨n2, e2, _, _⟩ := DataW.trod_int Tryd.underlying3 f2
    simp only [List.cons.injEq, and_true] at e0 e1 e2
    subst e0 e1 e2
    rcases DataW.trod_slice Tryd.underlying58 f3 with ⟨e, _⟩ | ⟨a, len, cap, elems, rest, k, rfl, e, _, _, hlc, _, hel, hget, _, _⟩
    · simp only [List.cons.injEq, and_true] at e
      subst e
      exact ⟨.mk ⟨n0, n1, n2⟩ [], _, rfl, none, 0, rfl, trivial⟩
    · simp only [List.cons.injEq, and_true] at e
      subst e
      rw [cells_parse] at hget
      obtain ⟨Fn, hFn⟩ := choose_lt (α := Ps) (n := len) (p := fun j n => ∃ sv, (∀ i, i < 4 → w.cell? (a.add (j * 4 + i)) = (psC n.d sv)[i]?) ∧ PsOk w n sv) (fun j hj => by
        have h1 := hget j hj
        rw [List.getElem?_eq_getElem (by omega), Option.bind_eq_some_iff] at h1
        obtain ⟨cs', h2, h3⟩ := h1
        obtain ⟨_, _, h5⟩ := World.cells?_some h2
        obtain ⟨n, sv, rfl, hok⟩ := ih k (by omega) cs' _ h3
        refine ⟨n, sv, fun i hi => ?_, hok⟩
        rw [← h5 i hi]
        congr 1
        unfold Addr.add
        split <;> split <;> split <;> simp_all <;> omega)
      refine ⟨.mk ⟨n0, n1, n2⟩ ((List.range len).map Fn), _, rfl, some a, cap, by simp, PssOk.of fun j hj => ?_⟩
      simp only [List.length_map, List.length_range] at hj
      obtain ⟨sv, h1, h2⟩ := hFn j hj
      have hsp : a.spot = none := by
        obtain ⟨sv0, h3, _⟩ := hFn 0 (by omega)
        simpa [Addr.add] using World.cell?_spot (show w.cell? (a.add (0 * 4 + 0)) = some _ from h3 0 (by omega))
      refine ⟨a.block, a.off, sv, ?_, fun i hi => ?_, by simpa using h2⟩
      · obtain ⟨b, o, s⟩ := a; simp only at hsp; subst hsp; rfl
      · have := h1 i hi
        have ea : a.add (j * 4 + i) = ⟨a.block, a.off + (0 + j) * 4 + i, none⟩ := by
          obtain ⟨b, o, s⟩ := a
          simp only at hsp
          subst hsp
          unfold Addr.add
          split <;> simp_all <;> omega
        rw [ea] at this
        simpa using this
set_option maxRecDepth 100000 in
theorem open_parse {r : Reach} {b0 : Nat} {v : Value} {d : DataW H} {qs : List MemPlace} (hval : Value.okWide Tryd.prog w r b0 60 v) (h : DataW.Trod enc Tryd.prog w base spare held 60 v d qs) : ∃ (n : Ps) (sv : Value), v = psV n.d sv ∧ PsOk w n sv := by
  obtain ⟨cs, rfl, hsz⟩ := okWide_struct Tryd.underlying60 hval
  obtain ⟨fuel, hf⟩ := h
  obtain ⟨n, sv, h1, h2⟩ := open_parse_cs fuel _ _ hf
  refine ⟨n, sv, ?_, h2⟩
  obtain ⟨l⟩ := cs
  have h1 : l = psC n.d sv := by simpa [Value.cells] using h1
  subst h1
  rfl
end
end Go.Proofs.YthddlhpndaffjaaDoor
