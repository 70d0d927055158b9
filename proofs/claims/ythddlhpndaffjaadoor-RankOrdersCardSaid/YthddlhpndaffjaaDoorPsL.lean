/- List literals of two nodes, of one parse, of two parses. No condition. -/
import Derived.Test.YthddlhpndaffjaaDoorPsW
import Derived.Great.BuildSlice
namespace Go.Proofs.YthddlhpndaffjaaDoor
open Go Go.RowKit

section
variable {ops : Array Oper} {rest : List Oper} {o : Oper} {a : Act} {w : World} {Q : Exit → Act → World → Prop}
/-- A list literal of two nodes. -/
theorem wpl_twoNd (hgd : o.guard = none) (x y : Operand) (ho : o.op = .buildSlice 25 2 #[(0, x), (1, y)]) (h h' : Hd) (sv sv' : Value) (hx : a.eval x = nodeV h sv) (hy : a.eval y = nodeV h' sv')
    (hK : ∀ g w1, NdAt w1 g 0 h sv → NdAt w1 g 10 h' sv' → Ext w w1 → w.heap.size ≤ g → wpList Tryd.prog ops Q rest (a.put o.dst (.slice (some ⟨g, 0, none⟩) 2 2)) w1) : wpList Tryd.prog ops Q (o :: rest) a w := by
  obtain ⟨i, hi, hz⟩ := Option.map_eq_some_iff.1 zero_nd
  have hs : i.size = 10 := by have := info_nd; rw [hi] at this; simpa using this
  have hb : ∀ j, j < 20 → (w.alloc (.cells ((nodeC h sv ++ nodeC h' sv').toArray) 27)).cell? ⟨w.heap.size, j, none⟩ = (nodeC h sv ++ nodeC h' sv')[j]? := fun j _ => by
    rw [(Blk.new w _ _).cell]; simp
  refine wpList_buildSlice hgd 25 27 2 _ ho ((nodeC h sv ++ nodeC h' sv').toArray) i _ Tryd.underlying25 hi hz (by rw [hs]; decide) (by rw [hs]; decide) ?_ (hK _ _ (fun j hj => by
      rw [Nat.zero_add, hb j (by omega), List.getElem?_append_left (by rw [nodeC_len]; omega)]) (fun j hj => by
      rw [hb (10 + j) (by omega), List.getElem?_append_right (by rw [nodeC_len]; omega), nodeC_len, Nat.add_sub_cancel_left]) ((Ext.refl w).alloc _) (Nat.le_refl _))
  rw [hs]
  have hf := Great.fill_whole (s := 10) (by decide) [nodeV h sv, nodeV h' sv'] ((Array.range (2 * 10)).map ((nodeV ⟨0, fun _ => false, 0, 0, 0, false⟩ (.slice none 0 0)).cells[· % (nodeV ⟨0, fun _ => false, 0, 0, 0, false⟩ (.slice none 0 0)).cells.size]!)) (fun v hv => by
    simp only [List.mem_cons, List.not_mem_nil, or_false] at hv
    rcases hv with rfl | rfl <;> rfl) (by simp)
  have e : (List.map (fun x => (x.2, x.1)) ([nodeV h sv, nodeV h' sv'].zipIdx 0)) = (Array.map (fun x => (x.1, a.eval x.2)) #[(0, x), (1, y)]).toList := by simp [hx, hy, List.zipIdx]
  rw [e] at hf
  rw [hf]
  simp [nodeV_eq, Value.cells, nodeA]
theorem zero_ps : (Tryd.prog.info? 60).map (fun i => i.zero) = some (some (psV ⟨0, 0, 0⟩ (.slice none 0 0))) := by kernel_rfl
/-- A list literal of one parse. -/
theorem wpl_onePs (hgd : o.guard = none) (x : Operand) (ho : o.op = .buildSlice 58 1 #[(0, x)]) (h : Pd) (sv : Value) (hx : a.eval x = psV h sv)
    (hK : ∀ g w1, PsAt w1 g 0 h sv → Ext w w1 → w.heap.size ≤ g → wpList Tryd.prog ops Q rest (a.put o.dst (.slice (some ⟨g, 0, none⟩) 1 1)) w1) : wpList Tryd.prog ops Q (o :: rest) a w := by
  obtain ⟨i, hi, hz⟩ := Option.map_eq_some_iff.1 zero_ps
  have hs : i.size = 4 := by have := info_ps; rw [hi] at this; simpa using this
  refine wpList_buildSlice hgd 58 60 1 _ ho (psA h sv) i _ Tryd.underlying58 hi hz (by rw [hs]; decide) (by rw [hs]; decide) ?_ (hK _ _ (Blk.new w _ _).ps ((Ext.refl w).alloc _) (Nat.le_refl _))
  rw [hs]
  have hf := Great.fill_whole (s := 4) (by decide) [psV h sv] ((Array.range (1 * 4)).map ((psV ⟨0, 0, 0⟩ (.slice none 0 0)).cells[· % (psV ⟨0, 0, 0⟩ (.slice none 0 0)).cells.size]!)) (fun v hv => by simp only [List.mem_singleton] at hv; subst hv; rfl) (by simp)
  have e : (List.map (fun x => (x.2, x.1)) ([psV h sv].zipIdx 0)) = (Array.map (fun x => (x.1, a.eval x.2)) #[(0, x)]).toList := by simp [hx]
  rw [e] at hf
  rw [hf]
  simp [psV_eq, Value.cells]
theorem psC_len (d : Pd) (sv : Value) : (psC d sv).length = 4 := rfl
/-- A list literal of two parses. -/
theorem wpl_twoPs (hgd : o.guard = none) (x y : Operand) (ho : o.op = .buildSlice 58 2 #[(0, x), (1, y)]) (h h' : Pd) (sv sv' : Value) (hx : a.eval x = psV h sv) (hy : a.eval y = psV h' sv')
    (hK : ∀ g w1, PsAt w1 g 0 h sv → PsAt w1 g 4 h' sv' → Ext w w1 → w.heap.size ≤ g → wpList Tryd.prog ops Q rest (a.put o.dst (.slice (some ⟨g, 0, none⟩) 2 2)) w1) : wpList Tryd.prog ops Q (o :: rest) a w := by
  obtain ⟨i, hi, hz⟩ := Option.map_eq_some_iff.1 zero_ps
  have hs : i.size = 4 := by have := info_ps; rw [hi] at this; simpa using this
  have hb : ∀ j, j < 8 → (w.alloc (.cells ((psC h sv ++ psC h' sv').toArray) 60)).cell? ⟨w.heap.size, j, none⟩ = (psC h sv ++ psC h' sv')[j]? := fun j _ => by
    rw [(Blk.new w _ _).cell]; simp
  refine wpList_buildSlice hgd 58 60 2 _ ho ((psC h sv ++ psC h' sv').toArray) i _ Tryd.underlying58 hi hz (by rw [hs]; decide) (by rw [hs]; decide) ?_ (hK _ _ (fun j hj => by
      rw [Nat.zero_add, hb j (by omega), List.getElem?_append_left (by rw [psC_len]; omega)]) (fun j hj => by
      rw [hb (4 + j) (by omega), List.getElem?_append_right (by rw [psC_len]; omega), psC_len, Nat.add_sub_cancel_left]) ((Ext.refl w).alloc _) (Nat.le_refl _))
  rw [hs]
  have hf := Great.fill_whole (s := 4) (by decide) [psV h sv, psV h' sv'] ((Array.range (2 * 4)).map ((psV ⟨0, 0, 0⟩ (.slice none 0 0)).cells[· % (psV ⟨0, 0, 0⟩ (.slice none 0 0)).cells.size]!)) (fun v hv => by
    simp only [List.mem_cons, List.not_mem_nil, or_false] at hv
    rcases hv with rfl | rfl <;> rfl) (by simp)
  have e : (List.map (fun x => (x.2, x.1)) ([psV h sv, psV h' sv'].zipIdx 0)) = (Array.map (fun x => (x.1, a.eval x.2)) #[(0, x), (1, y)]).toList := by simp [hx, hy, List.zipIdx]
  rw [e] at hf
  rw [hf]
  simp [psV_eq, Value.cells, psA]
end
theorem NdOk.leaf (W : World) (h : Hd) (A : Option Addr) (c : Nat) : NdOk W (.mk h []) (.slice A 0 c) := by
  unfold NdOk
  exact ⟨A, c, rfl, trivial⟩
theorem NdOk.one {W : World} {n : Nd} {h : Hd} {g c : Nat} {sv : Value} (ha : NdAt W g 0 n.h sv) (hn : NdOk W n sv) : NdOk W (.mk h [n]) (.slice (some ⟨g, 0, none⟩) 1 c) := by
  unfold NdOk
  refine ⟨_, c, rfl, ⟨g, 0, sv, rfl, fun i hi => ?_, hn⟩, trivial⟩
  have := ha i hi
  rwa [Nat.zero_add] at this ⊢
theorem NdOk.two {W : World} {n n' : Nd} {h : Hd} {g c : Nat} {sv sv' : Value} (ha : NdAt W g 0 n.h sv) (hn : NdOk W n sv) (ha' : NdAt W g 10 n'.h sv') (hn' : NdOk W n' sv') : NdOk W (.mk h [n, n']) (.slice (some ⟨g, 0, none⟩) 2 c) := by
  unfold NdOk
  refine ⟨_, c, rfl, ⟨g, 0, sv, rfl, fun i hi => ?_, hn⟩, ⟨g, 0, sv', rfl, fun i hi => ?_, hn'⟩, trivial⟩
  · have := ha i hi
    rwa [Nat.zero_add] at this ⊢
  · have := ha' i hi
    rwa [show 0 + (0 + 1) * 10 + i = 10 + i by omega]
theorem PsOk.leaf (W : World) (d : Pd) (A : Option Addr) (c : Nat) : PsOk W (.mk d []) (.slice A 0 c) := by
  unfold PsOk
  exact ⟨A, c, rfl, trivial⟩
theorem PsOk.one {W : World} {p : Ps} {d : Pd} {g c : Nat} {sv : Value} (ha : PsAt W g 0 p.d sv) (hn : PsOk W p sv) : PsOk W (.mk d [p]) (.slice (some ⟨g, 0, none⟩) 1 c) := by
  unfold PsOk
  refine ⟨_, c, rfl, ⟨g, 0, sv, rfl, fun i hi => ?_, hn⟩, trivial⟩
  have := ha i hi
  rwa [Nat.zero_add] at this ⊢
theorem PsOk.two {W : World} {p p' : Ps} {d : Pd} {g c : Nat} {sv sv' : Value} (ha : PsAt W g 0 p.d sv) (hn : PsOk W p sv) (ha' : PsAt W g 4 p'.d sv') (hn' : PsOk W p' sv') : PsOk W (.mk d [p, p']) (.slice (some ⟨g, 0, none⟩) 2 c) := by
  unfold PsOk
  refine ⟨_, c, rfl, ⟨g, 0, sv, rfl, fun i hi => ?_, hn⟩, ⟨g, 0, sv', rfl, fun i hi => ?_, hn'⟩, trivial⟩
  · have := ha i hi
    rwa [Nat.zero_add] at this ⊢
  · have := ha' i hi
    rwa [show 0 + (0 + 1) * 4 + i = 4 + i by omega]

end Go.Proofs.YthddlhpndaffjaaDoor
