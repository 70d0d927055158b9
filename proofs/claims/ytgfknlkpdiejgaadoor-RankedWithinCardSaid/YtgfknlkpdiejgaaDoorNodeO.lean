/- An argument of type api.Node opened: it is a tree in memory. No condition. -/
import Derived.Test.YtgfknlkpdiejgaaDoorNodeP
import Derived.Test.YtgfknlkpdiejgaaDoorNLeft
import Derived.RowKit
import Derived.ChangeArms
import Derived.ChangeSame
import Derived.WideShapes
import Derived.Deep.Slices
namespace Go.Proofs.YtgfknlkpdiejgaaDoor
open Go Go.RowKit Go.ChangeShapes Go.WideShapes Go.ChangeAt Go.Deep

section
variable {H : Type} {enc : TypeId × Value → H} {w : World} {base : Nat} {spare : Nat → Bool} {held : Bool}
theorem cells_node : Tryd.prog.cellsOf 27 = 10 := by kernel_rfl
theorem cells_seti : Tryd.prog.cellsOf 24 = 4 := by kernel_rfl
theorem cells_inti : Tryd.prog.cellsOf 3 = 1 := by kernel_rfl
theorem cells_booli : Tryd.prog.cellsOf 4 = 1 := by kernel_rfl
theorem cells_nodes : Tryd.prog.cellsOf 25 = 1 := by kernel_rfl
theorem cells_u64i : Tryd.prog.cellsOf 22 = 1 := by kernel_rfl
theorem u64_nat7 {n : Int} (h : (Lit.int .u64 n).wf = true) : ∃ k : Nat, n = (k : Int) ∧ k < 18446744073709551616 := by
  obtain ⟨h0, h1⟩ : 0 ≤ n ∧ n ≤ 18446744073709551615 := by simpa [Lit.wf, IntKind.min, IntKind.max, IntKind.signed, IntKind.bits] using h
  obtain ⟨k, rfl⟩ := Int.eq_ofNat_of_zero_le h0
  exact ⟨k, rfl, by omega⟩
set_option maxRecDepth 100000 in
theorem open_words {n : Nat} {c0 c1 c2 c3 : Value} {x : DataW H × List MemPlace} (h : DataW.trod enc Tryd.prog w base spare held n 24 [c0, c1, c2, c3] = some x) : ∃ p : Nat → Bool, c0 = .int .u64 (wd p 0 : Int) ∧ c1 = .int .u64 (wd p 1 : Int) ∧ c2 = .int .u64 (wd p 2 : Int) ∧ c3 = .int .u64 (wd p 3 : Int) := by
  obtain ⟨y0, y1, y2, y3, n, he, h0, h1, h2, h3⟩ := trod_array4 Tryd.underlying24 cells_u64i h
  obtain ⟨n0, e0, x0, w0⟩ := DataW.trod_int Tryd.underlying22 h0
  obtain ⟨n1, e1, x1, w1⟩ := DataW.trod_int Tryd.underlying22 h1
  obtain ⟨n2, e2, x2, w2⟩ := DataW.trod_int Tryd.underlying22 h2
  obtain ⟨n3, e3, x3, w3⟩ := DataW.trod_int Tryd.underlying22 h3
  simp only [List.cons.injEq, and_true] at e0 e1 e2 e3
  subst e0 e1 e2 e3
  obtain ⟨k0, rfl, l0⟩ := u64_nat7 w0
  obtain ⟨k1, rfl, l1⟩ := u64_nat7 w1
  obtain ⟨k2, rfl, l2⟩ := u64_nat7 w2
  obtain ⟨k3, rfl, l3⟩ := u64_nat7 w3
  let a : Nat → Nat := fun i => if i = 0 then k0 else if i = 1 then k1 else if i = 2 then k2 else k3
  refine ⟨memOf a, ?_, ?_, ?_, ?_⟩
  · rw [wd_memOf a 0 (by simpa [a] using l0)]; rfl
  · rw [wd_memOf a 1 (by simpa [a] using l1)]; rfl
  · rw [wd_memOf a 2 (by simpa [a] using l2)]; rfl
  · rw [wd_memOf a 3 (by simpa [a] using l3)]; rfl

instance : Inhabited Nd := ⟨.mk ⟨0, fun _ => false, 0, 0, 0, false⟩ []⟩

set_option maxRecDepth 100000 in
theorem open_node_cs : ∀ (F : Nat) (cs : List Value) (x : DataW H × List MemPlace), DataW.trod enc Tryd.prog w base spare held F 27 cs = some x → ∃ (n : Nd) (sv : Value), cs = nodeC n.h sv ∧ NdOk w n sv := fun F => by
  induction F using Nat.strongRecOn with
  | ind F ih =>
    intro cs x h
    obtain ⟨xs, m, rfl, _, hl, hxs, hf⟩ := DataW.trod_struct Tryd.underlying27 h
    rw [cells_node] at hl
    obtain ⟨c0, c1, c2, c3, c4, c5, c6, c7, c8, c9, rfl⟩ : ∃ c0 c1 c2 c3 c4 c5 c6 c7 c8 c9, cs = [c0, c1, c2, c3, c4, c5, c6, c7, c8, c9] := by
      match cs, hl with
      | [c0, c1, c2, c3, c4, c5, c6, c7, c8, c9], _ => exact ⟨c0, c1, c2, c3, c4, c5, c6, c7, c8, c9, rfl⟩
    have hs : ∀ i, i < 7 → ∃ y, xs[i]? = some y := fun i hi => ⟨_, List.getElem?_eq_getElem (by rw [hxs]; exact hi)⟩
    have f0 : DataW.trod enc Tryd.prog w base spare held m 3 (List.take (Tryd.prog.cellsOf 3) (List.drop 0 [c0, c1, c2, c3, c4, c5, c6, c7, c8, c9])) = xs[0]? := hf 0 _ rfl
    have f1 : DataW.trod enc Tryd.prog w base spare held m 24 (List.take (Tryd.prog.cellsOf 24) (List.drop 1 [c0, c1, c2, c3, c4, c5, c6, c7, c8, c9])) = xs[1]? := hf 1 _ rfl
    have f2 : DataW.trod enc Tryd.prog w base spare held m 25 (List.take (Tryd.prog.cellsOf 25) (List.drop 5 [c0, c1, c2, c3, c4, c5, c6, c7, c8, c9])) = xs[2]? := hf 2 _ rfl
    have f3 : DataW.trod enc Tryd.prog w base spare held m 3 (List.take (Tryd.prog.cellsOf 3) (List.drop 6 [c0, c1, c2, c3, c4, c5, c6, c7, c8, c9])) = xs[3]? := hf 3 _ rfl
    have f4 : DataW.trod enc Tryd.prog w base spare held m 3 (List.take (Tryd.prog.cellsOf 3) (List.drop 7 [c0, c1, c2, c3, c4, c5, c6, c7, c8, c9])) = xs[4]? := hf 4 _ rfl
    have f5 : DataW.trod enc Tryd.prog w base spare held m 3 (List.take (Tryd.prog.cellsOf 3) (List.drop 8 [c0, c1, c2, c3, c4, c5, c6, c7, c8, c9])) = xs[5]? := hf 5 _ rfl
    have f6 : DataW.trod enc Tryd.prog w base spare held m 4 (List.take (Tryd.prog.cellsOf 4) (List.drop 9 [c0, c1, c2, c3, c4, c5, c6, c7, c8, c9])) = xs[6]? := hf 6 _ rfl
    obtain ⟨y0, hy0⟩ := hs 0 (by omega)
    obtain ⟨y1, hy1⟩ := hs 1 (by omega)
    obtain ⟨y2, hy2⟩ := hs 2 (by omega)
    obtain ⟨y3, hy3⟩ := hs 3 (by omega)
    obtain ⟨y4, hy4⟩ := hs 4 (by omega)
    obtain ⟨y5, hy5⟩ := hs 5 (by omega)
    obtain ⟨y6, hy6⟩ := hs 6 (by omega)
    rw [hy0] at f0
    rw [hy1] at f1
    rw [hy2] at f2
    rw [hy3] at f3
    rw [hy4] at f4
    rw [hy5] at f5
    rw [hy6] at f6
    simp only [cells_inti, cells_seti, cells_nodes, cells_booli, List.drop_succ_cons, List.drop_zero, List.take_succ_cons, List.take_zero] at f0 f1 f2 f3 f4 f5 f6
    obtain ⟨n0, e0, _, _⟩ := DataW.trod_int Tryd.underlying3 f0
    obtain ⟨p, rfl, rfl, rfl, rfl⟩ := open_words f1
    obtain ⟨n3, e3, _, _⟩ := DataW.trod_int Tryd.underlying3 f3
    obtain ⟨n4, e4, _, _⟩ := DataW.trod_int Tryd.underlying3 f4
    obtain ⟨n5, e5, _, _⟩ := DataW.trod_int Tryd.underlying3 f5
    obtain ⟨b6, e6, _⟩ := DataW.trod_bool Tryd.underlying4 f6
    simp only [List.cons.injEq, and_true] at e0 e3 e4 e5 e6
    subst e0 e3 e4 e5 e6
    rcases DataW.trod_slice Tryd.underlying25 f2 with ⟨e, _⟩ | ⟨a, len, cap, elems, rest, k, rfl, e, _, _, hlc, _, hel, hget, _, _⟩
    · simp only [List.cons.injEq, and_true] at e
      subst e
      exact ⟨.mk ⟨n0, p, n3, n4, n5, b6⟩ [], _, rfl, none, 0, rfl, trivial⟩
    · simp only [List.cons.injEq, and_true] at e
      subst e
      rw [cells_node] at hget
      obtain ⟨Fn, hFn⟩ := choose_lt (α := Nd) (n := len) (p := fun j n => ∃ sv, (∀ i, i < 10 → w.cell? (a.add (j * 10 + i)) = (nodeC n.h sv)[i]?) ∧ NdOk w n sv) (fun j hj => by
        have h1 := hget j hj
        rw [List.getElem?_eq_getElem (by omega), Option.bind_eq_some_iff] at h1
        obtain ⟨cs', h2, h3⟩ := h1
        obtain ⟨_, _, h5⟩ := World.cells?_some h2
        obtain ⟨n, sv, rfl, hok⟩ := ih k (by omega) cs' _ h3
        refine ⟨n, sv, fun i hi => ?_, hok⟩
        rw [← h5 i hi]
        congr 1
        unfold Addr.add
        split <;> split <;> split <;> simp_all <;> omega)
      refine ⟨.mk ⟨n0, p, n3, n4, n5, b6⟩ ((List.range len).map Fn), _, rfl, some a, cap, by simp, NdsOk.of fun j hj => ?_⟩
      simp only [List.length_map, List.length_range] at hj
      obtain ⟨sv, h1, h2⟩ := hFn j hj
      have hsp : a.spot = none := by
        obtain ⟨sv0, h3, _⟩ := hFn 0 (by omega)
        simpa [Addr.add] using World.cell?_spot (show w.cell? (a.add (0 * 10 + 0)) = some _ from h3 0 (by omega))
      refine ⟨a.block, a.off, sv, ?_, fun i hi => ?_, by simpa using h2⟩
      · obtain ⟨b, o, s⟩ := a; simp only at hsp; subst hsp; rfl
      · have := h1 i hi
        have ea : a.add (j * 10 + i) = ⟨a.block, a.off + (0 + j) * 10 + i, none⟩ := by
          obtain ⟨b, o, s⟩ := a
          simp only at hsp
          subst hsp
          unfold Addr.add
          split <;> simp_all <;> omega
        rw [ea] at this
        simpa using this
set_option maxRecDepth 100000 in
theorem open_node {r : Reach} {b0 : Nat} {v : Value} {d : DataW H} {qs : List MemPlace} (hval : Value.okWide Tryd.prog w r b0 27 v) (h : DataW.Trod enc Tryd.prog w base spare held 27 v d qs) : ∃ (n : Nd) (sv : Value), v = nodeV n.h sv ∧ NdOk w n sv := by
  obtain ⟨cs, rfl, hsz⟩ := okWide_struct Tryd.underlying27 hval
  obtain ⟨fuel, hf⟩ := h
  obtain ⟨n, sv, h1, h2⟩ := open_node_cs fuel _ _ hf
  refine ⟨n, sv, ?_, h2⟩
  obtain ⟨l⟩ := cs
  have h1 : l = nodeC n.h sv := by simpa [Value.cells] using h1
  subst h1
  rfl
end
end Go.Proofs.YtgfknlkpdiejgaaDoor
