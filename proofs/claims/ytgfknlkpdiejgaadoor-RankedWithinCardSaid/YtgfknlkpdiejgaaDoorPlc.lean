/- Sets of places in memory, and the engine's functions on them: none, has, add, empty, only. Condition: the words lie in memory. -/
import Derived.Test.YtgfknlkpdiejgaaDoorLdT
import Derived.Test.YtgfknlkpdiejgaaDoorSetA
import Derived.Test.YtgfknlkpdiejgaaDoorKeeps
import Derived.Carry
namespace Go.Proofs.YtgfknlkpdiejgaaDoor
open Go Go.RowKit

theorem info_u64 : (Tryd.prog.info? 22).map (fun i => (i.zero, i.size, i.bytes)) = some (some (.int .u64 0), 1, 8) := by kernel_rfl
/-- The words of a set of places. -/
def pwC (nw : Nat) (p : Pl) : List Value := (List.range nw).map fun j => Value.int .u64 (wd p j)
theorem pwC_len (nw : Nat) (p : Pl) : (pwC nw p).length = nw := by simp [pwC]
theorem pwC_get {nw : Nat} {p : Pl} {j : Nat} (h : j < nw) : (pwC nw p)[j]? = some (.int .u64 (wd p j)) := by
  unfold pwC
  rw [List.getElem?_map, List.getElem?_range h]
  rfl
/-- A slice of words reads as a set of places. -/
def RdP (W : World) (v : Value) (nw : Nat) (p : Pl) : Prop := ∃ A c, v = .slice A nw c ∧ nw ≤ c ∧ ∀ j, j < nw → ∃ g o, A = some ⟨g, o, none⟩ ∧ W.cell? ⟨g, o + j, none⟩ = some (.int .u64 (wd p j))
theorem RdP.ext {W W' : World} {v : Value} {nw : Nat} {p : Pl} (h : RdP W v nw p) (hx : Ext W W') : RdP W' v nw p := by
  obtain ⟨A, c, hv, hlc, hc⟩ := h
  exact ⟨A, c, hv, hlc, fun j hj => by obtain ⟨g, o, hA, hcell⟩ := hc j hj; exact ⟨g, o, hA, hx.cell hcell⟩⟩
abbrev OwnP (W : World) (B : Nat) (v : Value) (nw : Nat) (p : Pl) : Prop := Own1 W B 22 v (pwC nw p)
theorem RdP.of_own {W : World} {B nw : Nat} {v : Value} {p : Pl} (h : OwnP W B v nw p) : RdP W v nw p := by
  rcases h.slice with ⟨rfl, h0⟩ | ⟨g, cap, cur, rfl, _, _, hlc, _⟩
  · have : nw = 0 := by rw [← pwC_len nw p, h0]; rfl
    subst this
    exact ⟨none, 0, rfl, Nat.le_refl _, fun j hj => absurd hj (Nat.not_lt_zero j)⟩
  · refine ⟨some ⟨g, 0, none⟩, cap, by rw [pwC_len], by rwa [pwC_len] at hlc, fun j hj => ⟨g, 0, rfl, ?_⟩⟩
    rw [Nat.zero_add]
    exact h.cells.2 j _ (pwC_get hj)
/-- The block of a slice. -/
def blkOf : Value → Option Nat
  | .slice (some a) _ _ => some a.block
  | _ => none
theorem RdP.keeps {W W' : World} {F : Nat → Prop} {v : Value} {nw : Nat} {p : Pl} (h : RdP W v nw p) (hk : Keeps F W W') (hF : ∀ g, blkOf v = some g → ¬ F g) : RdP W' v nw p := by
  obtain ⟨A, c, rfl, hlc, hc⟩ := h
  refine ⟨A, c, rfl, hlc, fun j hj => ?_⟩
  obtain ⟨g, o, rfl, hcell⟩ := hc j hj
  exact ⟨g, o, rfl, cell_keeps hcell hk (hF g rfl)⟩
theorem own_blk {W : World} {B : Nat} {e : TypeId} {v : Value} {xs : List Value} (h : Own1 W B e v xs) : blkOf v = v.ownBlock := by
  rcases h.slice with ⟨rfl, _⟩ | ⟨g, cap, cur, rfl, _⟩ <;> rfl
/-- The engine: its scene, its words, its spans. -/
def EnAt (W : World) (ev x : Value) (nw : Nat) (sv : Value) : Prop := ∃ g, ev = .pointer (some ⟨g, 0, none⟩) ∧ Blk W g 72 #[x, .int .i64 nw, sv]
theorem EnAt.ext {W W' : World} {ev x sv : Value} {nw : Nat} (h : EnAt W ev x nw sv) (hx : Ext W W') : EnAt W' ev x nw sv := by
  obtain ⟨g, h1, h2⟩ := h
  exact ⟨g, h1, h2.ext hx⟩

theorem pwC_no (n : Nat) : pwC n noP = List.replicate n (.int .u64 0) := by
  rw [List.eq_replicate_iff]
  refine ⟨pwC_len _ _, fun b hb => ?_⟩
  obtain ⟨j, _, rfl⟩ := List.mem_map.1 hb
  rw [show wd noP j = 0 from wd_none j]
  rfl
theorem made_u64 (n : Nat) : madeCells #[Value.int .u64 0] n = (pwC n noP).toArray := by
  rw [pwC_no]
  apply Array.ext
  · simp [madeCells]
  · intro i h1 h2
    simp [madeCells, Nat.mod_one]
theorem made_pl (nw : Nat) (hn : nw ≤ 100000000) (W : World) : (Instr.makeSlice 59 (.int .i64 (nw : Int)) (.int .i64 (nw : Int))).run Tryd.prog W =
    .ok (.slice (some ⟨W.heap.size, 0, none⟩) nw nw) (W.alloc (.cells (pwC nw noP).toArray 22)) := by
  obtain ⟨i0, hi0, hz0, hz1, hz2⟩ := info_parts info_u64
  have := run_make (P := Tryd.prog) W 59 22 i0 (.int .u64 0) Tryd.underlying59 hi0 hz0 .i64 .i64 (nw : Int) (nw : Int) (by omega) (by omega) (by rw [hz2]; omega) (by omega)
  rw [this]
  rw [Int.toNat_natCast, hz1, Nat.mul_one]
  simp [Value.cells, made_u64]
theorem own_made (W : World) (nw : Nat) (p : Pl) (hn : nw ≤ 100000000) : OwnP (W.alloc (.cells (pwC nw p).toArray 22)) W.heap.size (.slice (some ⟨W.heap.size, 0, none⟩) nw nw) nw p := by
  have hb : Blk (W.alloc (.cells (pwC nw p).toArray 22)) W.heap.size 22 (pwC nw p).toArray := Blk.new W _ _
  refine ⟨by rw [pwC_len, Nat.mul_one], .inr ⟨W.heap.size, nw, (pwC nw p).toArray, by rw [pwC_len], Nat.le_refl _, hb, by rw [pwC_len]; exact Nat.le_refl _, by simp only [maxLen]; omega, by simp [pwC_len], ?_⟩⟩
  rw [pwC_len]
  simp only [Nat.mul_one]
  exact List.take_of_length_le (by rw [pwC_len]; exact Nat.le_refl _)

set_option maxRecDepth 100000 in
theorem none_any (ev x sv : Value) (nw : Nat) (w : World) (h : EnAt w ev x nw sv) (hn : nw ≤ 100000000) :
    Calls Tryd.prog 33 #[ev] w fun e w' => ∃ v, e = .returned v ∧ OwnP w' w.heap.size v nw noP ∧ Ext w w' := by
  obtain ⟨g, rfl, hb⟩ := h
  have c1 : w.cell? ⟨g, 1, none⟩ = some (.int .i64 nw) := hb.cell 1
  have hmk := made_pl nw hn
  clear hb
  go_enter Tryd.func33, Tryd.ntmps33
  go_wp2
  go_ret
  exact ⟨_, rfl, own_made w nw noP hn, (Ext.refl w).alloc _⟩
set_option maxRecDepth 100000 in
set_option maxHeartbeats 4000000 in
theorem hasP_any (v : Value) (nw : Nat) (p : Pl) (i : Nat) (w : World) (h : RdP w v nw p) (hi : i / 64 < nw) (hnw : nw ≤ 100000000) :
    Calls Tryd.prog 51 #[v, .int .i64 i] w fun e w' => e = .returned (.bool (p i)) ∧ w = w' := by
  obtain ⟨A, c, rfl, hlc, hc⟩ := h
  obtain ⟨g, o, rfl, hcell⟩ := hc _ hi
  have h3 := i64_mask63 i (by omega)
  have hB := word_bit (wd p (i / 64)) (i % 64) (wd_lt p (i / 64))
  have hC : (wd p (i / 64)).testBit (i % 64) = p i := by
    rw [wd_bit _ _ _ (by omega)]
    congr 1
    omega
  have HBC := Lib.hid (hB.trans hC)
  have h1 : (i : Int) / 64 = ((i / 64 : Nat) : Int) := by omega
  have hr : i % 64 < 64 := by omega
  clear hB hC hc
  generalize i / 64 = q at *
  generalize i % 64 = r at *
  generalize wd p q = x at *
  go_enter Tryd.func51, Tryd.ntmps51
  go_wp2
  go_ret
  exact ⟨ret_bool HBC.out, rfl⟩

end Go.Proofs.YtgfknlkpdiejgaaDoor
