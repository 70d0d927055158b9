/- An argument of type trawllaw11.View opened: a string and two ints. No condition. -/
import Derived.Test.YtgfknlkpdiejgaaDoorNodeO
namespace Go.Proofs.YtgfknlkpdiejgaaDoor
open Go Go.RowKit Go.ChangeShapes Go.WideShapes Go.ChangeAt Go.Deep

section
variable {H : Type} {enc : TypeId × Value → H} {w : World} {base : Nat} {spare : Nat → Bool} {held : Bool}
theorem cells_view : Tryd.prog.cellsOf 29 = 3 := by kernel_rfl
theorem cells_str : Tryd.prog.cellsOf 9 = 1 := by kernel_rfl
set_option maxRecDepth 100000 in
theorem open_view {r : Reach} {b0 : Nat} {v : Value} {d : DataW H} {qs : List MemPlace} (hval : Value.okWide Tryd.prog w r b0 29 v) (h : DataW.Trod enc Tryd.prog w base spare held 29 v d qs) : ∃ (s : ByteArray) (c e : Int), v = .agg #[.string s, .int .i64 c, .int .i64 e] := by
  obtain ⟨cs, rfl, hsz⟩ := okWide_struct Tryd.underlying29 hval
  obtain ⟨fuel, hf⟩ := h
  obtain ⟨xs, m, _, _, hl, hxs, hf⟩ := DataW.trod_struct Tryd.underlying29 hf
  rw [cells_view] at hl
  obtain ⟨l⟩ := cs
  simp only [Value.cells] at hl hf
  obtain ⟨c0, c1, c2, rfl⟩ : ∃ c0 c1 c2, l = [c0, c1, c2] := by
    match l, hl with
    | [c0, c1, c2], _ => exact ⟨c0, c1, c2, rfl⟩
  have hs : ∀ i, i < 3 → ∃ y, xs[i]? = some y := fun i hi => ⟨_, List.getElem?_eq_getElem (by rw [hxs]; exact hi)⟩
  have f0 : DataW.trod enc Tryd.prog w base spare held m 9 (List.take (Tryd.prog.cellsOf 9) (List.drop 0 [c0, c1, c2])) = xs[0]? := hf 0 _ rfl
  have f1 : DataW.trod enc Tryd.prog w base spare held m 3 (List.take (Tryd.prog.cellsOf 3) (List.drop 1 [c0, c1, c2])) = xs[1]? := hf 1 _ rfl
  have f2 : DataW.trod enc Tryd.prog w base spare held m 3 (List.take (Tryd.prog.cellsOf 3) (List.drop 2 [c0, c1, c2])) = xs[2]? := hf 2 _ rfl
  obtain ⟨y0, hy0⟩ := hs 0 (by omega)
  obtain ⟨y1, hy1⟩ := hs 1 (by omega)
  obtain ⟨y2, hy2⟩ := hs 2 (by omega)
  rw [hy0] at f0
  rw [hy1] at f1
  rw [hy2] at f2
  simp only [cells_inti, cells_str, List.drop_succ_cons, List.drop_zero, List.take_succ_cons, List.take_zero] at f0 f1 f2
  obtain ⟨s, e0, _, _⟩ := DataW.trod_string Tryd.underlying9 f0
  obtain ⟨n1, e1, _, _⟩ := DataW.trod_int Tryd.underlying3 f1
  obtain ⟨n2, e2, _, _⟩ := DataW.trod_int Tryd.underlying3 f2
  simp only [List.cons.injEq, and_true] at e0 e1 e2
  subst e0 e1 e2
  exact ⟨s, n1, n2, rfl⟩
end
end Go.Proofs.YtgfknlkpdiejgaaDoor
