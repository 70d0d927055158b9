/- The program's First as a contract over the set's bytes, where the library's table holds what it holds. -/
import Derived.Test.YteahmkhmkalimaaDoorRefD
import Derived.Shelf.Spec.TrailingZeros
namespace Go.Proofs.YteahmkhmkalimaaDoor
open Go.RowKit

/-- The library's table. -/
def Tab (w : World) : Prop := ∀ i, i < 64 → w.cell? ⟨21, i, none⟩ = some (.int .u8 (Lib.deBruijn64tab.getD i 0 : Nat))
theorem Tab.ext {w w' : World} (h : Tab w) (hx : Ext w w') : Tab w' := fun i hi => hx.cell (h i hi)

set_option maxHeartbeats 1000000 in
theorem tz_core (x n a b idx k : Nat) (w : World) (hz : ((x : Int) == 0) = false) (e1 : IntKind.u64.wrap (-(x : Int)) = (n : Int)) (e2 : bits .and .u64 (x : Int) (n : Int) = (a : Int)) (e3 : IntKind.u64.wrap ((a : Int) * 285870213051353865) = (b : Int)) (e4 : (b : Int) / 288230376151711744 = (idx : Int))
    (hi : idx < 64) (hk : k < 64) (hcell : w.cell? ⟨21, idx, none⟩ = some (.int .u8 k)) :
    Calls Tryd.prog 40 #[.int .u64 x] w fun e w' => e = .returned (.int .i64 k) ∧ w = w' := by
  go_enter Tryd.func40, Tryd.ntmps40
  go_wp2
  go_ret
  exact ⟨rfl, rfl⟩
theorem tz_any (x : Nat) (w : World) (hx : x < 18446744073709551616) (h0 : x ≠ 0) (hT : Tab w) :
    Calls Tryd.prog 40 #[.int .u64 x] w fun e w' => e = .returned (.int .i64 (Lib.ctz 64 x)) ∧ w = w' := by
  obtain ⟨hlow, hk⟩ := Lib.lowest_bit 64 x h0 hx
  obtain ⟨hi, htab⟩ := Lib.deBruijn64_at _ hk
  have hcell := hT _ hi
  rw [htab] at hcell
  refine tz_core x (18446744073709551616 - x) (2 ^ Lib.ctz 64 x) (2 ^ Lib.ctz 64 x * 285870213051353865 % 18446744073709551616) _ _ w (by simp; omega) ?_ ?_ ?_ ?_ hi hk hcell
  · rw [IntKind.wrap_u64]; omega
  · rw [u64_and_nat x _ hx (by omega)]
    exact congrArg _ hlow
  · rw [IntKind.wrap_u64]
    generalize 2 ^ Lib.ctz 64 x = y
    omega
  · generalize 2 ^ Lib.ctz 64 x * 285870213051353865 % 18446744073709551616 = y
    omega

theorem ctz_bits {x : Nat} (h0 : x ≠ 0) (hx : x < 18446744073709551616) : Lib.ctz 64 x < 64 ∧ x.testBit (Lib.ctz 64 x) = true ∧ ∀ j, j < Lib.ctz 64 x → x.testBit j = false := by
  obtain ⟨m, hm, hk⟩ := Lib.ctzFrom_spec 64 x (by omega) hx
  have e : Lib.ctz 64 x = Lib.ctzFrom 64 x := by simp [Lib.ctz, h0]
  rw [e]
  generalize Lib.ctzFrom 64 x = c at *
  refine ⟨hk, ?_, fun j hj => ?_⟩
  · rw [hm, Nat.mul_comm, Nat.testBit_mul_two_pow]
    simp [Nat.testBit_zero]
  · rw [hm, Nat.mul_comm, Nat.testBit_mul_two_pow]
    have : decide (j ≥ c) = false := by simp; omega
    rw [this, Bool.false_and]
theorem wd_zero {p : Nat → Bool} {i : Nat} (h : wd p i = 0) (b : Nat) (h1 : 64 * i ≤ b) (h2 : b < 64 * i + 64) : p b = false := by
  have := wd_bit p i (b - 64 * i) (by omega)
  rw [h, Nat.zero_testBit] at this
  rw [this]
  congr 1
  omega
theorem fst_word {p : Nat → Bool} {i : Nat} (hi : i < 4) (h : ∀ j, j < i → wd p j = 0) (h0 : wd p i ≠ 0) : Lib.ctz 64 (wd p i) < 64 ∧ fstB p 256 0 = some (64 * i + Lib.ctz 64 (wd p i)) := by
  obtain ⟨h1, h2, h3⟩ := ctz_bits h0 (wd_lt p i)
  refine ⟨h1, fstB_some (by omega) (by omega) ?_ fun b _ hb => ?_⟩
  · rw [← wd_bit p i _ h1]; exact h2
  · by_cases hlow : b < 64 * i
    · exact wd_zero (h (b / 64) (by omega)) b (by omega) (by omega)
    · have := wd_bit p i (b - 64 * i) (by omega)
      rw [h3 (b - 64 * i) (by omega)] at this
      rw [this]
      congr 1
      omega
theorem fst_nothing {p : Nat → Bool} (h : ∀ j, j < 4 → wd p j = 0) : fstB p 256 0 = none :=
  fstB_none fun b _ hb => wd_zero (h (b / 64) (by omega)) b (by omega) (by omega)

set_option maxHeartbeats 2000000 in
theorem first0 (a0 a1 a2 a3 k : Nat) (w : World) (hk : k < 64) (hne : ((a0 : Int) != 0) = true)
    (H : ∀ W, Tab W → Calls Tryd.prog 40 #[.int .u64 (a0 : Int)] W fun e w' => e = .returned (.int .i64 (k : Int)) ∧ W = w') (hT : Tab w) :
    Calls Tryd.prog 19 #[.agg #[.int .u64 (a0 : Int), .int .u64 (a1 : Int), .int .u64 (a2 : Int), .int .u64 (a3 : Int)]] w fun r w' => r = .returned (.tuple #[.int .u8 (k : Int), .bool true]) ∧ Ext w w' := by
  have i0 : ∀ w, (Instr.index 24 (.agg #[.int .u64 (a0 : Int), .int .u64 (a1 : Int), .int .u64 (a2 : Int), .int .u64 (a3 : Int)]) (.int .i64 0)).run Tryd.prog w = .ok (.int .u64 (a0 : Int)) w := fun _ => by kernel_rfl
  have HH := Lib.hid (fun v => H _ (hT.ext ((Ext.refl w).alloc v)))
  clear H hT
  go_enter Tryd.func19, Tryd.ntmps19
  go_wp2
  refine wp_loop_rounds 5 ?_
  rw [rounds_succ]
  go_wp2_with (go_at_call 40; refine (HH.out _).mono ?_; rintro e w2 ⟨rfl, rfl⟩)
  go_ret2
  exact ⟨by first | rfl | go_num, (Ext.refl w).alloc _⟩
set_option maxHeartbeats 2000000 in
theorem first1 (a1 a2 a3 k : Nat) (w : World) (hk : k < 64) (hne : ((a1 : Int) != 0) = true)
    (H : ∀ W, Tab W → Calls Tryd.prog 40 #[.int .u64 (a1 : Int)] W fun e w' => e = .returned (.int .i64 (k : Int)) ∧ W = w') (hT : Tab w) :
    Calls Tryd.prog 19 #[.agg #[.int .u64 0, .int .u64 (a1 : Int), .int .u64 (a2 : Int), .int .u64 (a3 : Int)]] w fun r w' => r = .returned (.tuple #[.int .u8 (64 + k : Int), .bool true]) ∧ Ext w w' := by
  have i0 : ∀ w, (Instr.index 24 (.agg #[.int .u64 0, .int .u64 (a1 : Int), .int .u64 (a2 : Int), .int .u64 (a3 : Int)]) (.int .i64 0)).run Tryd.prog w = .ok (.int .u64 0) w := fun _ => by kernel_rfl
  have i1 : ∀ w, (Instr.index 24 (.agg #[.int .u64 0, .int .u64 (a1 : Int), .int .u64 (a2 : Int), .int .u64 (a3 : Int)]) (.int .i64 1)).run Tryd.prog w = .ok (.int .u64 (a1 : Int)) w := fun _ => by kernel_rfl
  have HH := Lib.hid (fun v => H _ (hT.ext ((Ext.refl w).alloc v)))
  clear H hT
  go_enter Tryd.func19, Tryd.ntmps19
  go_wp2
  refine wp_loop_rounds 5 ?_
  rw [rounds_succ]
  go_wp2
  rw [rounds_succ]
  go_wp2_with (go_at_call 40; refine (HH.out _).mono ?_; rintro e w2 ⟨rfl, rfl⟩)
  go_ret2
  exact ⟨by first | rfl | go_num, (Ext.refl w).alloc _⟩
set_option maxHeartbeats 2000000 in
theorem first2 (a2 a3 k : Nat) (w : World) (hk : k < 64) (hne : ((a2 : Int) != 0) = true)
    (H : ∀ W, Tab W → Calls Tryd.prog 40 #[.int .u64 (a2 : Int)] W fun e w' => e = .returned (.int .i64 (k : Int)) ∧ W = w') (hT : Tab w) :
    Calls Tryd.prog 19 #[.agg #[.int .u64 0, .int .u64 0, .int .u64 (a2 : Int), .int .u64 (a3 : Int)]] w fun r w' => r = .returned (.tuple #[.int .u8 (128 + k : Int), .bool true]) ∧ Ext w w' := by
  have i0 : ∀ w, (Instr.index 24 (.agg #[.int .u64 0, .int .u64 0, .int .u64 (a2 : Int), .int .u64 (a3 : Int)]) (.int .i64 0)).run Tryd.prog w = .ok (.int .u64 0) w := fun _ => by kernel_rfl
  have i1 : ∀ w, (Instr.index 24 (.agg #[.int .u64 0, .int .u64 0, .int .u64 (a2 : Int), .int .u64 (a3 : Int)]) (.int .i64 1)).run Tryd.prog w = .ok (.int .u64 0) w := fun _ => by kernel_rfl
  have i2 : ∀ w, (Instr.index 24 (.agg #[.int .u64 0, .int .u64 0, .int .u64 (a2 : Int), .int .u64 (a3 : Int)]) (.int .i64 2)).run Tryd.prog w = .ok (.int .u64 (a2 : Int)) w := fun _ => by kernel_rfl
  have HH := Lib.hid (fun v => H _ (hT.ext ((Ext.refl w).alloc v)))
  clear H hT
  go_enter Tryd.func19, Tryd.ntmps19
  go_wp2
  refine wp_loop_rounds 5 ?_
  rw [rounds_succ]
  go_wp2
  rw [rounds_succ]
  go_wp2
  rw [rounds_succ]
  go_wp2_with (go_at_call 40; refine (HH.out _).mono ?_; rintro e w2 ⟨rfl, rfl⟩)
  go_ret2
  exact ⟨by first | rfl | go_num, (Ext.refl w).alloc _⟩
set_option maxHeartbeats 2000000 in
theorem first3 (a3 k : Nat) (w : World) (hk : k < 64) (hne : ((a3 : Int) != 0) = true)
    (H : ∀ W, Tab W → Calls Tryd.prog 40 #[.int .u64 (a3 : Int)] W fun e w' => e = .returned (.int .i64 (k : Int)) ∧ W = w') (hT : Tab w) :
    Calls Tryd.prog 19 #[.agg #[.int .u64 0, .int .u64 0, .int .u64 0, .int .u64 (a3 : Int)]] w fun r w' => r = .returned (.tuple #[.int .u8 (192 + k : Int), .bool true]) ∧ Ext w w' := by
  have i0 : ∀ w, (Instr.index 24 (.agg #[.int .u64 0, .int .u64 0, .int .u64 0, .int .u64 (a3 : Int)]) (.int .i64 0)).run Tryd.prog w = .ok (.int .u64 0) w := fun _ => by kernel_rfl
  have i1 : ∀ w, (Instr.index 24 (.agg #[.int .u64 0, .int .u64 0, .int .u64 0, .int .u64 (a3 : Int)]) (.int .i64 1)).run Tryd.prog w = .ok (.int .u64 0) w := fun _ => by kernel_rfl
  have i2 : ∀ w, (Instr.index 24 (.agg #[.int .u64 0, .int .u64 0, .int .u64 0, .int .u64 (a3 : Int)]) (.int .i64 2)).run Tryd.prog w = .ok (.int .u64 0) w := fun _ => by kernel_rfl
  have i3 : ∀ w, (Instr.index 24 (.agg #[.int .u64 0, .int .u64 0, .int .u64 0, .int .u64 (a3 : Int)]) (.int .i64 3)).run Tryd.prog w = .ok (.int .u64 (a3 : Int)) w := fun _ => by kernel_rfl
  have HH := Lib.hid (fun v => H _ (hT.ext ((Ext.refl w).alloc v)))
  clear H hT
  go_enter Tryd.func19, Tryd.ntmps19
  go_wp2
  refine wp_loop_rounds 5 ?_
  rw [rounds_succ]
  go_wp2
  rw [rounds_succ]
  go_wp2
  rw [rounds_succ]
  go_wp2
  rw [rounds_succ]
  go_wp2_with (go_at_call 40; refine (HH.out _).mono ?_; rintro e w2 ⟨rfl, rfl⟩)
  go_ret2
  exact ⟨by first | rfl | go_num, (Ext.refl w).alloc _⟩
set_option maxHeartbeats 2000000 in
theorem first4 (w : World) :
    Calls Tryd.prog 19 #[.agg #[.int .u64 0, .int .u64 0, .int .u64 0, .int .u64 0]] w fun r w' => r = .returned (.tuple #[.int .u8 0, .bool false]) ∧ Ext w w' := by
  have i0 : ∀ w, (Instr.index 24 (.agg #[.int .u64 0, .int .u64 0, .int .u64 0, .int .u64 0]) (.int .i64 0)).run Tryd.prog w = .ok (.int .u64 0) w := fun _ => by kernel_rfl
  have i1 : ∀ w, (Instr.index 24 (.agg #[.int .u64 0, .int .u64 0, .int .u64 0, .int .u64 0]) (.int .i64 1)).run Tryd.prog w = .ok (.int .u64 0) w := fun _ => by kernel_rfl
  have i2 : ∀ w, (Instr.index 24 (.agg #[.int .u64 0, .int .u64 0, .int .u64 0, .int .u64 0]) (.int .i64 2)).run Tryd.prog w = .ok (.int .u64 0) w := fun _ => by kernel_rfl
  have i3 : ∀ w, (Instr.index 24 (.agg #[.int .u64 0, .int .u64 0, .int .u64 0, .int .u64 0]) (.int .i64 3)).run Tryd.prog w = .ok (.int .u64 0) w := fun _ => by kernel_rfl
  go_enter Tryd.func19, Tryd.ntmps19
  go_wp2
  refine wp_loop_rounds 5 ?_
  rw [rounds_succ]
  go_wp2
  rw [rounds_succ]
  go_wp2
  rw [rounds_succ]
  go_wp2
  rw [rounds_succ]
  go_wp2
  rw [rounds_succ]
  go_wp2
  go_ret2
  exact ⟨rfl, (Ext.refl w).alloc _⟩

/-- What First answers. -/
def fstV : Option Nat → Value
  | none => .tuple #[.int .u8 0, .bool false]
  | some k => .tuple #[.int .u8 (k : Int), .bool true]
theorem zne {x : Nat} (h : x ≠ 0) : ((x : Int) != 0) = true := by
  have : ¬ (x : Int) = 0 := by omega
  simpa using this
theorem first_any (p : Nat → Bool) (w : World) (hT : Tab w) :
    Calls Tryd.prog 19 #[setV p] w fun r w' => r = .returned (fstV (fstB p 256 0)) ∧ Ext w w' := by
  have H := fun i (h0 : wd p i ≠ 0) W hW => tz_any (wd p i) W (wd_lt p i) h0 hW
  unfold setV u64v
  by_cases h0 : wd p 0 = 0
  · by_cases h1 : wd p 1 = 0
    · by_cases h2 : wd p 2 = 0
      · by_cases h3 : wd p 3 = 0
        · have := fst_nothing (p := p) (fun j hj => by rcases (show j = 0 ∨ j = 1 ∨ j = 2 ∨ j = 3 from by omega) with rfl | rfl | rfl | rfl <;> assumption)
          rw [h0, h1, h2, h3, this]
          exact first4 w
        · obtain ⟨hk, hf⟩ := fst_word (p := p) (i := 3) (by omega) (fun j hj => by rcases (show j = 0 ∨ j = 1 ∨ j = 2 from by omega) with rfl | rfl | rfl <;> assumption) h3
          rw [h0, h1, h2, hf]
          exact first3 _ _ w hk (zne h3) (H 3 h3) hT
      · obtain ⟨hk, hf⟩ := fst_word (p := p) (i := 2) (by omega) (fun j hj => by rcases (show j = 0 ∨ j = 1 from by omega) with rfl | rfl <;> assumption) h2
        rw [h0, h1, hf]
        exact first2 _ _ _ w hk (zne h2) (H 2 h2) hT
    · obtain ⟨hk, hf⟩ := fst_word (p := p) (i := 1) (by omega) (fun j hj => by rcases (show j = 0 from by omega) with rfl; assumption) h1
      rw [h0, hf]
      exact first1 _ _ _ _ w hk (zne h1) (H 1 h1) hT
  · obtain ⟨hk, hf⟩ := fst_word (p := p) (i := 0) (by omega) (fun j hj => by omega) h0
    rw [hf]
    have := first0 _ (wd p 1) (wd p 2) (wd p 3) _ w hk (zne h0) (H 0 h0) hT
    rw [show 64 * 0 + Lib.ctz 64 (wd p 0) = Lib.ctz 64 (wd p 0) by omega]
    exact this

end Go.Proofs.YteahmkhmkalimaaDoor
