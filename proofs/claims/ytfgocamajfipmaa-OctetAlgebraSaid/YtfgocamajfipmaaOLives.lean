/- The fixed facts of layer 1's statements as a contract. No condition. -/
import Derived.Test.YtfgocamajfipmaaSetB
import Derived.Test.YtfgocamajfipmaaSetEq
namespace Go.Proofs.Ytfgocamajfipmaa
open Go.RowKit

theorem wd_aca : wd (ofL [97, 99, 97]) 0 = 0 ∧ wd (ofL [97, 99, 97]) 1 = 42949672960 ∧ wd (ofL [97, 99, 97]) 2 = 0 ∧ wd (ofL [97, 99, 97]) 3 = 0 := by decide +kernel
theorem setV_aca : setV (ofL [97, 99, 97]) = .agg #[.int .u64 0, .int .u64 42949672960, .int .u64 0, .int .u64 0] := by
  obtain ⟨h0, h1, h2, h3⟩ := wd_aca
  unfold setV u64v
  rw [h0, h1, h2, h3]
  rfl
theorem of_aca (w : World) (t : TypeId) (c : Nat) :
    Calls Try.prog 19 #[.slice (some ⟨w.heap.size, 0, none⟩) 3 c] (w.alloc (.cells #[.int .u8 97, .int .u8 99, .int .u8 97] t)) fun r w' => r = .returned (.agg #[.int .u64 0, .int .u64 42949672960, .int .u64 0, .int .u64 0]) ∧ Ext w w' := by
  have hB := Blk.new w t #[.int .u8 97, .int .u8 99, .int .u8 97]
  have h := of_any [97, 99, 97] (.slice (some ⟨w.heap.size, 0, none⟩) 3 c) (w.alloc (.cells #[.int .u8 97, .int .u8 99, .int .u8 97] t)) ⟨_, _, rfl, fun j hj => ⟨w.heap.size, 0, rfl, by
    rw [hB.cell]
    have : j < 3 := hj
    rcases (show j = 0 ∨ j = 1 ∨ j = 2 from by omega) with rfl | rfl | rfl <;> rfl⟩⟩ (fun j => by
    rcases (show j = 0 ∨ j = 1 ∨ j = 2 ∨ 3 ≤ j from by omega) with rfl | rfl | rfl | h
    · exact (by decide : 97 < 256)
    · exact (by decide : 99 < 256)
    · exact (by decide : 97 < 256)
    · rw [List.getD_eq_getElem?_getD, List.getElem?_eq_none (by simpa using h)]; exact Nat.zero_lt_succ _) (by simp)
  refine h.mono fun e w' ⟨h1, h2⟩ => ⟨?_, ((Ext.refl w).alloc _).trans h2⟩
  rw [h1, setV_aca]
theorem count_aca (w : World) :
    Calls Try.prog 18 #[.agg #[.int .u64 0, .int .u64 42949672960, .int .u64 0, .int .u64 0]] w fun r w' => r = .returned (.int .i64 2) ∧ Ext w w' := by
  have h := count_any (ofL [97, 99, 97]) w
  rw [setV_aca, show cntB (ofL [97, 99, 97]) 256 = 2 from by decide +kernel] at h
  exact h
theorem has_aca (w : World) :
    Calls Try.prog 20 #[.agg #[.int .u64 0, .int .u64 42949672960, .int .u64 0, .int .u64 0], .int .u8 99] w fun r w' => r = .returned (.bool true) ∧ Ext w w' := by
  have h := has_any (ofL [97, 99, 97]) 99 w (by omega)
  rw [setV_aca] at h
  exact h
theorem meet_nil (w : World) :
    Calls Try.prog 11 #[.slice none 0 0] w fun r w' => r = .returned (.agg #[.int .u64 (wd (fun _ => true) 0 : Int), .int .u64 (wd (fun _ => true) 1 : Int), .int .u64 (wd (fun _ => true) 2 : Int), .int .u64 (wd (fun _ => true) 3 : Int)]) ∧ Ext w w' :=
  meet_any [] _ w ⟨none, 0, rfl, fun j hj => absurd hj (Nat.not_lt_zero j)⟩ (by simp)
theorem count_all (w : World) :
    Calls Try.prog 18 #[.agg #[.int .u64 (wd (fun _ => true) 0 : Int), .int .u64 (wd (fun _ => true) 1 : Int), .int .u64 (wd (fun _ => true) 2 : Int), .int .u64 (wd (fun _ => true) 3 : Int)]] w fun r w' => r = .returned (.int .i64 256) ∧ Ext w w' := by
  have h := count_any (fun _ => true) w
  rw [show cntB (fun _ => true) 256 = 256 from by decide +kernel] at h
  exact h

set_option maxRecDepth 100000 in
set_option maxHeartbeats 4000000 in
theorem octetLives_any (w : World) :
    Calls Try.prog 6 #[] w fun r w' => r = .returned (.bool true) ∧ Ext w w' := by
  have H1 := Lib.hid (fun W t c => of_aca W t c)
  have H2 := Lib.hid (fun W => count_aca W)
  have H3 := Lib.hid (fun W => has_aca W)
  have H4 := Lib.hid (fun W => meet_nil W)
  have H5 := Lib.hid (fun W => count_all W)
  have heq := eql_same
  go_enter Try.func6, Try.ntmps6
  go_upto_region 2 with (go_at_call 19; ((with_reducible refine (H1.out _ _ _).mono ?_); rintro e w1 ⟨rfl, hx1⟩))
  have hB : Blk (w1.alloc (.cells #[.int .u64 0, .int .u64 42949672960, .int .u64 0, .int .u64 0] 25)) w1.heap.size 25 #[.int .u64 0, .int .u64 42949672960, .int .u64 0, .int .u64 0] := Blk.new w1 _ _
  have hx := hx1.alloc (.cells #[.int .u64 0, .int .u64 42949672960, .int .u64 0, .int .u64 0] 25)
  clear hx1
  generalize w1.alloc (.cells #[.int .u64 0, .int .u64 42949672960, .int .u64 0, .int .u64 0] 25) = w2 at *
  generalize w1.heap.size = g at *
  have a0 : w2.cell? ⟨g, 0, none⟩ = some (.int .u64 0) := hB.cell 0
  have a1 : w2.cell? ⟨g, 1, none⟩ = some (.int .u64 42949672960) := hB.cell 1
  have a2 : w2.cell? ⟨g, 2, none⟩ = some (.int .u64 0) := hB.cell 2
  have a3 : w2.cell? ⟨g, 3, none⟩ = some (.int .u64 0) := hB.cell 3
  go_wp2_with (first
    | (go_at_call 18; ((with_reducible refine (H2.out _).mono ?_); rintro e w3 ⟨rfl, hx3⟩; have b0 := hx3.cell a0; have b1 := hx3.cell a1; have b2 := hx3.cell a2; have b3 := hx3.cell a3))
    | (go_at_call 20; ((with_reducible refine (H3.out _).mono ?_); rintro e w4 ⟨rfl, hx4⟩))
    | (go_at_call 11; ((with_reducible refine (H4.out _).mono ?_); rintro e w5 ⟨rfl, hx5⟩))
    | (go_at_call 18; ((with_reducible refine (H5.out _).mono ?_); rintro e w6 ⟨rfl, hx6⟩)))
  go_ret
  exact ⟨rfl, (((hx.trans hx3).trans hx4).trans hx5).trans hx6⟩

end Go.Proofs.Ytfgocamajfipmaa
