/- The reader's New, Count, Held and End as contracts. Condition of End: the reader is not ended. -/
import Derived.Test.YtfgocamajfipmaaDoorFeed
namespace Go.Proofs.YtfgocamajfipmaaDoor
open Go.RowKit

theorem new_any (w : World) : Calls Tryd.prog 8 #[] w fun r w' => r = .returned (.pointer (some ⟨w.heap.size, 0, none⟩)) ∧ w' = w.alloc (.cells #[.slice none 0 0, .int .i64 0, .bool false] 45) := by
  go_enter Tryd.func8, Tryd.ntmps8
  go_wp2
  go_ret
  exact ⟨rfl, rfl⟩
theorem count_any (g : Nat) (hv : Value) (cnt : Nat) (e : Bool) (w : World) (hR : Blk w g 45 #[hv, .int .i64 (cnt : Int), .bool e]) :
    Calls Tryd.prog 12 #[.pointer (some ⟨g, 0, none⟩)] w fun r w' => r = .returned (.int .i64 (cnt : Int)) ∧ w = w' := by
  have c1 : w.cell? ⟨g, 1, none⟩ = some (.int .i64 (cnt : Int)) := hR.cell 1
  go_enter Tryd.func12, Tryd.ntmps12
  go_wp2
  go_ret
  exact ⟨rfl, rfl⟩
theorem held_any (B g : Nat) (hv : Value) (held : List UInt8) (cnt : Nat) (e : Bool) (w : World) (hR : Blk w g 45 #[hv, .int .i64 (cnt : Int), .bool e]) (hH : Own1 w B 5 hv (uC held)) :
    Calls Tryd.prog 14 #[.pointer (some ⟨g, 0, none⟩)] w fun r w' => r = .returned (.int .i64 (held.length : Int)) ∧ w = w' := by
  obtain ⟨A, c, rfl, _⟩ := hH.shape
  rw [uC_len] at hR hH
  have c0 : w.cell? ⟨g, 0, none⟩ = some (.slice A held.length c) := hR.cell 0
  go_enter Tryd.func14, Tryd.ntmps14
  go_wp2
  go_ret
  exact ⟨rfl, rfl⟩

/-- How many lines End tells. -/
def endN (held : List UInt8) : Nat := if held = [] then 0 else 1
def endB (held : List UInt8) : Bool := if held = [] then false else true
set_option maxRecDepth 100000 in
set_option maxHeartbeats 2000000 in
theorem end_any (B g : Nat) (hv : Value) (held : List UInt8) (cnt : Nat) (w : World) (hR : Blk w g 45 #[hv, .int .i64 (cnt : Int), .bool false]) (hH : Own1 w B 5 hv (uC held)) (hcn : cnt ≤ 1000000000000) :
    Calls Tryd.prog 10 #[.pointer (some ⟨g, 0, none⟩)] w fun r w' => ∃ hv', r = .returned (.tuple #[strV held, .bool (endB held), .nilIface]) ∧
      Blk w' g 45 #[hv', .int .i64 ((cnt + endN held : Nat) : Int), .bool true] ∧ Own1 w' B 5 hv' (uC []) ∧ Keeps (fun k => k = g) w w' := by
  have hOg := hH.apartB hR (by decide)
  have hcv := Lib.hid (fun W h => conv_own W B 5 hv held h)
  have hHH := Lib.hid hH
  obtain ⟨A, c, hsh, _⟩ := hH.shape
  rw [uC_len] at hsh
  subst hsh
  have c0 : w.cell? ⟨g, 0, none⟩ = some (.slice A held.length c) := hR.cell 0
  have c1 : w.cell? ⟨g, 1, none⟩ = some (.int .i64 (cnt : Int)) := hR.cell 1
  have c2 : w.cell? ⟨g, 2, none⟩ = some (.bool false) := hR.cell 2
  have f0 := hR.frozen 0
  have f1 := hR.frozen 1
  have f2 := hR.frozen 2
  clear hH
  by_cases hn : held = []
  · subst hn
    have K1 : Keeps (fun k => k = g) w (w.setCell ⟨g, 2, none⟩ (.bool true)) := (Keeps.refl (fun k => k = g) w).setCell (.inr rfl) _
    clear hcv
    go_enter Tryd.func10, Tryd.ntmps10
    go_wp2
    go_ret3
    exact ⟨_, rfl, hR.set 2 _, hHH.out.keeps K1 (fun i hi hf => by subst hf; exact hOg hi), K1⟩
  · have hl : ¬ (held.length : Int) = 0 := by have := List.length_pos_iff.2 hn; omega
    have HN := Lib.hid hn
    clear hn
    have hK1 : Keeps (fun k => k = g) w (w.setCell ⟨g, 2, none⟩ (.bool true)) := (Keeps.refl (fun k => k = g) w).setCell (.inr rfl) _
    have hc1 := hcv.out _ (hHH.out.keeps hK1 (fun i hi hf => by subst hf; exact hOg hi))
    have q1 : IntKind.i64.wrap ((cnt : Int) + 1) = (cnt : Int) + 1 := by rw [IntKind.wrap_i64]; omega
    have hs : ∃ sh : ByteArray, strV held = .string sh := ⟨_, rfl⟩
    obtain ⟨sh, hsh⟩ := hs
    rw [hsh] at hc1
    have HSH := Lib.hid hsh
    clear hsh hcv hK1
    go_enter Tryd.func10, Tryd.ntmps10
    go_wp2
    go_ret3
    refine ⟨.slice none 0 0, ?_, ?_, Own1.nil _ _ _, ((((Keeps.refl (fun k => k = g) w).setCell (.inr rfl) _).setCell (.inr rfl) _).setCell (.inr rfl) _)⟩
    · rw [HSH.out]
      unfold endB
      rw [if_neg HN.out]
      rfl
    · unfold endN
      rw [if_neg HN.out, show ((cnt + 1 : Nat) : Int) = (cnt : Int) + 1 by omega]
      exact ((hR.set 2 _).set 0 _).set 1 _

end Go.Proofs.YtfgocamajfipmaaDoor
