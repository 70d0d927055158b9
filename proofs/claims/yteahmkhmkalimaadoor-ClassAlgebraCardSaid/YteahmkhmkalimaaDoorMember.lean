/- The reference's classes of bytes: 'member' as a contract, name by name. No condition. -/
import Derived.Test.YteahmkhmkalimaaDoorSetA
namespace Go.Proofs.YteahmkhmkalimaaDoor
open Go.RowKit

/-- The twelve classes, by their place in the names' order. -/
def alnumB (b : Nat) : Bool := rangeB 65 90 b || rangeB 97 122 b || rangeB 48 57 b
def alphaB (b : Nat) : Bool := rangeB 65 90 b || rangeB 97 122 b
def blankB (b : Nat) : Bool := b == 9 || b == 32
def cntrlB (b : Nat) : Bool := rangeB 0 31 b || b == 127
def digitB (b : Nat) : Bool := rangeB 48 57 b
def graphB (b : Nat) : Bool := rangeB 33 126 b
def lowerB (b : Nat) : Bool := rangeB 97 122 b
def printB (b : Nat) : Bool := rangeB 32 126 b
def punctB (b : Nat) : Bool := rangeB 33 126 b && !rangeB 65 90 b && !rangeB 97 122 b && !rangeB 48 57 b
def spaceB (b : Nat) : Bool := rangeB 9 13 b || b == 32
def upperB (b : Nat) : Bool := rangeB 65 90 b
def xdigitB (b : Nat) : Bool := rangeB 48 57 b || rangeB 65 70 b || rangeB 97 102 b
def clsB : Nat → Nat → Bool
  | 0 => alnumB
  | 1 => alphaB
  | 2 => blankB
  | 3 => cntrlB
  | 4 => digitB
  | 5 => graphB
  | 6 => lowerB
  | 7 => printB
  | 8 => punctB
  | 9 => spaceB
  | 10 => upperB
  | 11 => xdigitB
  | _ => fun _ => false
def clsN : Nat → ByteArray
  | 0 => ⟨#[97, 108, 110, 117, 109]⟩
  | 1 => ⟨#[97, 108, 112, 104, 97]⟩
  | 2 => ⟨#[98, 108, 97, 110, 107]⟩
  | 3 => ⟨#[99, 110, 116, 114, 108]⟩
  | 4 => ⟨#[100, 105, 103, 105, 116]⟩
  | 5 => ⟨#[103, 114, 97, 112, 104]⟩
  | 6 => ⟨#[108, 111, 119, 101, 114]⟩
  | 7 => ⟨#[112, 114, 105, 110, 116]⟩
  | 8 => ⟨#[112, 117, 110, 99, 116]⟩
  | 9 => ⟨#[115, 112, 97, 99, 101]⟩
  | 10 => ⟨#[117, 112, 112, 101, 114]⟩
  | 11 => ⟨#[120, 100, 105, 103, 105, 116]⟩
  | _ => ⟨#[]⟩

theorem in_core (b lo hi : Int) (w : World) :
    Calls Tryd.prog 50 #[.int .i64 b, .int .i64 lo, .int .i64 hi] w fun r w' => r = .returned (.bool (decide (lo ≤ b) && decide (b ≤ hi))) ∧ w = w' := by
  by_cases h : lo ≤ b
  · have d : decide (lo ≤ b) = true := by simpa using h
    rw [d, Bool.true_and]
    go_enter Tryd.func50, Tryd.ntmps50
    go_wp2
    go_ret
    exact ⟨rfl, rfl⟩
  · have d : decide (lo ≤ b) = false := by simpa using h
    rw [d, Bool.false_and]
    go_enter Tryd.func50, Tryd.ntmps50
    go_wp2
    go_ret
    exact ⟨rfl, rfl⟩
theorem in_any (b lo hi : Nat) (l h : Int) (w : World) (hl : l = lo) (hh : h = hi) :
    Calls Tryd.prog 50 #[.int .i64 (b : Int), .int .i64 l, .int .i64 h] w fun r w' => r = .returned (.bool (rangeB lo hi b)) ∧ w = w' := by
  have e : (decide (l ≤ (b : Int)) && decide ((b : Int) ≤ h)) = rangeB lo hi b := by
    unfold rangeB
    subst hl hh
    congr 1
    · rw [decide_eq_decide]; omega
    · rw [decide_eq_decide]; omega
  rw [← e]
  exact in_core _ _ _ w

set_option maxRecDepth 100000 in
set_option maxHeartbeats 4000000 in
theorem member_alnum (b : Nat) (w : World) :
    Calls Tryd.prog 45 #[.string ⟨#[97, 108, 110, 117, 109]⟩, .int .i64 (b : Int)] w fun r w' => r = .returned (.bool (alnumB b)) ∧ w = w' := by
  unfold alnumB
  have H0 := Lib.hid (fun W => in_any b 65 90 65 90 W rfl rfl)
  have H1 := Lib.hid (fun W => in_any b 97 122 97 122 W rfl rfl)
  have H2 := Lib.hid (fun W => in_any b 48 57 48 57 W rfl rfl)
  generalize rangeB 65 90 b = r0 at *
  generalize rangeB 97 122 b = r1 at *
  generalize rangeB 48 57 b = r2 at *
  cases r0 <;> cases r1
  all_goals
    go_enter Tryd.func45, Tryd.ntmps45
    go_wp2_with (first
        | (go_at_call 50; ((with_reducible refine (H0.out _).mono ?_); rintro e w2 ⟨rfl, rfl⟩))
        | (go_at_call 50; ((with_reducible refine (H1.out _).mono ?_); rintro e w2 ⟨rfl, rfl⟩))
        | (go_at_call 50; ((with_reducible refine (H2.out _).mono ?_); rintro e w2 ⟨rfl, rfl⟩)))
    go_ret
    exact ⟨by simp, rfl⟩

set_option maxRecDepth 100000 in
set_option maxHeartbeats 4000000 in
theorem member_alpha (b : Nat) (w : World) :
    Calls Tryd.prog 45 #[.string ⟨#[97, 108, 112, 104, 97]⟩, .int .i64 (b : Int)] w fun r w' => r = .returned (.bool (alphaB b)) ∧ w = w' := by
  unfold alphaB
  have H0 := Lib.hid (fun W => in_any b 65 90 65 90 W rfl rfl)
  have H1 := Lib.hid (fun W => in_any b 97 122 97 122 W rfl rfl)
  have H2 := Lib.hid (fun W => in_any b 48 57 48 57 W rfl rfl)
  generalize rangeB 65 90 b = r0 at *
  generalize rangeB 97 122 b = r1 at *
  generalize rangeB 48 57 b = r2 at *
  cases r0
  all_goals
    go_enter Tryd.func45, Tryd.ntmps45
    go_wp2_with (first
        | (go_at_call 50; ((with_reducible refine (H0.out _).mono ?_); rintro e w2 ⟨rfl, rfl⟩))
        | (go_at_call 50; ((with_reducible refine (H1.out _).mono ?_); rintro e w2 ⟨rfl, rfl⟩))
        | (go_at_call 50; ((with_reducible refine (H2.out _).mono ?_); rintro e w2 ⟨rfl, rfl⟩)))
    go_ret
    exact ⟨by simp, rfl⟩

set_option maxRecDepth 100000 in
set_option maxHeartbeats 4000000 in
theorem member_blank (b : Nat) (w : World) :
    Calls Tryd.prog 45 #[.string ⟨#[98, 108, 97, 110, 107]⟩, .int .i64 (b : Int)] w fun r w' => r = .returned (.bool (blankB b)) ∧ w = w' := by
  unfold blankB
  have H0 := Lib.hid (fun W => in_any b 65 90 65 90 W rfl rfl)
  have H1 := Lib.hid (fun W => in_any b 97 122 97 122 W rfl rfl)
  have H2 := Lib.hid (fun W => in_any b 48 57 48 57 W rfl rfl)
  generalize rangeB 65 90 b = r0 at *
  generalize rangeB 97 122 b = r1 at *
  generalize rangeB 48 57 b = r2 at *
  have e9 : ((b : Int) == 9) = (b == 9) := by rw [Bool.eq_iff_iff, beq_iff_eq, beq_iff_eq]; omega
  generalize (b == 9) = q9 at *
  have e32 : ((b : Int) == 32) = (b == 32) := by rw [Bool.eq_iff_iff, beq_iff_eq, beq_iff_eq]; omega
  generalize (b == 32) = q32 at *
  cases q9
  all_goals
    go_enter Tryd.func45, Tryd.ntmps45
    go_wp2_with (first
        | (go_at_call 50; ((with_reducible refine (H0.out _).mono ?_); rintro e w2 ⟨rfl, rfl⟩))
        | (go_at_call 50; ((with_reducible refine (H1.out _).mono ?_); rintro e w2 ⟨rfl, rfl⟩))
        | (go_at_call 50; ((with_reducible refine (H2.out _).mono ?_); rintro e w2 ⟨rfl, rfl⟩)))
    go_ret
    exact ⟨by simp, rfl⟩

set_option maxRecDepth 100000 in
set_option maxHeartbeats 4000000 in
theorem member_cntrl (b : Nat) (w : World) :
    Calls Tryd.prog 45 #[.string ⟨#[99, 110, 116, 114, 108]⟩, .int .i64 (b : Int)] w fun r w' => r = .returned (.bool (cntrlB b)) ∧ w = w' := by
  unfold cntrlB
  have H0 := Lib.hid (fun W => in_any b 65 90 65 90 W rfl rfl)
  have H1 := Lib.hid (fun W => in_any b 97 122 97 122 W rfl rfl)
  have H2 := Lib.hid (fun W => in_any b 48 57 48 57 W rfl rfl)
  have H3 := Lib.hid (fun W => in_any b 0 31 0 31 W rfl rfl)
  generalize rangeB 65 90 b = r0 at *
  generalize rangeB 97 122 b = r1 at *
  generalize rangeB 48 57 b = r2 at *
  generalize rangeB 0 31 b = r3 at *
  have e127 : ((b : Int) == 127) = (b == 127) := by rw [Bool.eq_iff_iff, beq_iff_eq, beq_iff_eq]; omega
  generalize (b == 127) = q127 at *
  cases r3
  all_goals
    go_enter Tryd.func45, Tryd.ntmps45
    go_wp2_with (first
        | (go_at_call 50; ((with_reducible refine (H0.out _).mono ?_); rintro e w2 ⟨rfl, rfl⟩))
        | (go_at_call 50; ((with_reducible refine (H1.out _).mono ?_); rintro e w2 ⟨rfl, rfl⟩))
        | (go_at_call 50; ((with_reducible refine (H2.out _).mono ?_); rintro e w2 ⟨rfl, rfl⟩))
        | (go_at_call 50; ((with_reducible refine (H3.out _).mono ?_); rintro e w2 ⟨rfl, rfl⟩)))
    go_ret
    exact ⟨by simp, rfl⟩

set_option maxRecDepth 100000 in
set_option maxHeartbeats 4000000 in
theorem member_digit (b : Nat) (w : World) :
    Calls Tryd.prog 45 #[.string ⟨#[100, 105, 103, 105, 116]⟩, .int .i64 (b : Int)] w fun r w' => r = .returned (.bool (digitB b)) ∧ w = w' := by
  unfold digitB
  have H0 := Lib.hid (fun W => in_any b 65 90 65 90 W rfl rfl)
  have H1 := Lib.hid (fun W => in_any b 97 122 97 122 W rfl rfl)
  have H2 := Lib.hid (fun W => in_any b 48 57 48 57 W rfl rfl)
  generalize rangeB 65 90 b = r0 at *
  generalize rangeB 97 122 b = r1 at *
  generalize rangeB 48 57 b = r2 at *
  go_enter Tryd.func45, Tryd.ntmps45
  go_wp2_with (first
        | (go_at_call 50; ((with_reducible refine (H0.out _).mono ?_); rintro e w2 ⟨rfl, rfl⟩))
        | (go_at_call 50; ((with_reducible refine (H1.out _).mono ?_); rintro e w2 ⟨rfl, rfl⟩))
        | (go_at_call 50; ((with_reducible refine (H2.out _).mono ?_); rintro e w2 ⟨rfl, rfl⟩)))
  go_ret
  exact ⟨by simp, rfl⟩

set_option maxRecDepth 100000 in
set_option maxHeartbeats 4000000 in
theorem member_graph (b : Nat) (w : World) :
    Calls Tryd.prog 45 #[.string ⟨#[103, 114, 97, 112, 104]⟩, .int .i64 (b : Int)] w fun r w' => r = .returned (.bool (graphB b)) ∧ w = w' := by
  unfold graphB
  have H0 := Lib.hid (fun W => in_any b 65 90 65 90 W rfl rfl)
  have H1 := Lib.hid (fun W => in_any b 97 122 97 122 W rfl rfl)
  have H2 := Lib.hid (fun W => in_any b 48 57 48 57 W rfl rfl)
  have H3 := Lib.hid (fun W => in_any b 33 126 33 126 W rfl rfl)
  generalize rangeB 65 90 b = r0 at *
  generalize rangeB 97 122 b = r1 at *
  generalize rangeB 48 57 b = r2 at *
  generalize rangeB 33 126 b = r3 at *
  go_enter Tryd.func45, Tryd.ntmps45
  go_wp2_with (first
        | (go_at_call 50; ((with_reducible refine (H0.out _).mono ?_); rintro e w2 ⟨rfl, rfl⟩))
        | (go_at_call 50; ((with_reducible refine (H1.out _).mono ?_); rintro e w2 ⟨rfl, rfl⟩))
        | (go_at_call 50; ((with_reducible refine (H2.out _).mono ?_); rintro e w2 ⟨rfl, rfl⟩))
        | (go_at_call 50; ((with_reducible refine (H3.out _).mono ?_); rintro e w2 ⟨rfl, rfl⟩)))
  go_ret
  exact ⟨by simp, rfl⟩

set_option maxRecDepth 100000 in
set_option maxHeartbeats 4000000 in
theorem member_lower (b : Nat) (w : World) :
    Calls Tryd.prog 45 #[.string ⟨#[108, 111, 119, 101, 114]⟩, .int .i64 (b : Int)] w fun r w' => r = .returned (.bool (lowerB b)) ∧ w = w' := by
  unfold lowerB
  have H0 := Lib.hid (fun W => in_any b 65 90 65 90 W rfl rfl)
  have H1 := Lib.hid (fun W => in_any b 97 122 97 122 W rfl rfl)
  have H2 := Lib.hid (fun W => in_any b 48 57 48 57 W rfl rfl)
  generalize rangeB 65 90 b = r0 at *
  generalize rangeB 97 122 b = r1 at *
  generalize rangeB 48 57 b = r2 at *
  go_enter Tryd.func45, Tryd.ntmps45
  go_wp2_with (first
        | (go_at_call 50; ((with_reducible refine (H0.out _).mono ?_); rintro e w2 ⟨rfl, rfl⟩))
        | (go_at_call 50; ((with_reducible refine (H1.out _).mono ?_); rintro e w2 ⟨rfl, rfl⟩))
        | (go_at_call 50; ((with_reducible refine (H2.out _).mono ?_); rintro e w2 ⟨rfl, rfl⟩)))
  go_ret
  exact ⟨by simp, rfl⟩

set_option maxRecDepth 100000 in
set_option maxHeartbeats 4000000 in
theorem member_print (b : Nat) (w : World) :
    Calls Tryd.prog 45 #[.string ⟨#[112, 114, 105, 110, 116]⟩, .int .i64 (b : Int)] w fun r w' => r = .returned (.bool (printB b)) ∧ w = w' := by
  unfold printB
  have H0 := Lib.hid (fun W => in_any b 65 90 65 90 W rfl rfl)
  have H1 := Lib.hid (fun W => in_any b 97 122 97 122 W rfl rfl)
  have H2 := Lib.hid (fun W => in_any b 48 57 48 57 W rfl rfl)
  have H3 := Lib.hid (fun W => in_any b 32 126 32 126 W rfl rfl)
  generalize rangeB 65 90 b = r0 at *
  generalize rangeB 97 122 b = r1 at *
  generalize rangeB 48 57 b = r2 at *
  generalize rangeB 32 126 b = r3 at *
  go_enter Tryd.func45, Tryd.ntmps45
  go_wp2_with (first
        | (go_at_call 50; ((with_reducible refine (H0.out _).mono ?_); rintro e w2 ⟨rfl, rfl⟩))
        | (go_at_call 50; ((with_reducible refine (H1.out _).mono ?_); rintro e w2 ⟨rfl, rfl⟩))
        | (go_at_call 50; ((with_reducible refine (H2.out _).mono ?_); rintro e w2 ⟨rfl, rfl⟩))
        | (go_at_call 50; ((with_reducible refine (H3.out _).mono ?_); rintro e w2 ⟨rfl, rfl⟩)))
  go_ret
  exact ⟨by simp, rfl⟩

set_option maxRecDepth 100000 in
set_option maxHeartbeats 4000000 in
theorem member_punct (b : Nat) (w : World) :
    Calls Tryd.prog 45 #[.string ⟨#[112, 117, 110, 99, 116]⟩, .int .i64 (b : Int)] w fun r w' => r = .returned (.bool (punctB b)) ∧ w = w' := by
  unfold punctB
  have H0 := Lib.hid (fun W => in_any b 65 90 65 90 W rfl rfl)
  have H1 := Lib.hid (fun W => in_any b 97 122 97 122 W rfl rfl)
  have H2 := Lib.hid (fun W => in_any b 48 57 48 57 W rfl rfl)
  have H3 := Lib.hid (fun W => in_any b 33 126 33 126 W rfl rfl)
  generalize rangeB 65 90 b = r0 at *
  generalize rangeB 97 122 b = r1 at *
  generalize rangeB 48 57 b = r2 at *
  generalize rangeB 33 126 b = r3 at *
  cases r3 <;> cases r0 <;> cases r1
  all_goals
    go_enter Tryd.func45, Tryd.ntmps45
    go_wp2_with (first
        | (go_at_call 50; ((with_reducible refine (H0.out _).mono ?_); rintro e w2 ⟨rfl, rfl⟩))
        | (go_at_call 50; ((with_reducible refine (H1.out _).mono ?_); rintro e w2 ⟨rfl, rfl⟩))
        | (go_at_call 50; ((with_reducible refine (H2.out _).mono ?_); rintro e w2 ⟨rfl, rfl⟩))
        | (go_at_call 50; ((with_reducible refine (H3.out _).mono ?_); rintro e w2 ⟨rfl, rfl⟩)))
    go_ret
    exact ⟨by simp, rfl⟩

set_option maxRecDepth 100000 in
set_option maxHeartbeats 4000000 in
theorem member_space (b : Nat) (w : World) :
    Calls Tryd.prog 45 #[.string ⟨#[115, 112, 97, 99, 101]⟩, .int .i64 (b : Int)] w fun r w' => r = .returned (.bool (spaceB b)) ∧ w = w' := by
  unfold spaceB
  have H0 := Lib.hid (fun W => in_any b 65 90 65 90 W rfl rfl)
  have H1 := Lib.hid (fun W => in_any b 97 122 97 122 W rfl rfl)
  have H2 := Lib.hid (fun W => in_any b 48 57 48 57 W rfl rfl)
  have H3 := Lib.hid (fun W => in_any b 9 13 9 13 W rfl rfl)
  generalize rangeB 65 90 b = r0 at *
  generalize rangeB 97 122 b = r1 at *
  generalize rangeB 48 57 b = r2 at *
  generalize rangeB 9 13 b = r3 at *
  have e32 : ((b : Int) == 32) = (b == 32) := by rw [Bool.eq_iff_iff, beq_iff_eq, beq_iff_eq]; omega
  generalize (b == 32) = q32 at *
  cases r3
  all_goals
    go_enter Tryd.func45, Tryd.ntmps45
    go_wp2_with (first
        | (go_at_call 50; ((with_reducible refine (H0.out _).mono ?_); rintro e w2 ⟨rfl, rfl⟩))
        | (go_at_call 50; ((with_reducible refine (H1.out _).mono ?_); rintro e w2 ⟨rfl, rfl⟩))
        | (go_at_call 50; ((with_reducible refine (H2.out _).mono ?_); rintro e w2 ⟨rfl, rfl⟩))
        | (go_at_call 50; ((with_reducible refine (H3.out _).mono ?_); rintro e w2 ⟨rfl, rfl⟩)))
    go_ret
    exact ⟨by simp, rfl⟩

set_option maxRecDepth 100000 in
set_option maxHeartbeats 4000000 in
theorem member_upper (b : Nat) (w : World) :
    Calls Tryd.prog 45 #[.string ⟨#[117, 112, 112, 101, 114]⟩, .int .i64 (b : Int)] w fun r w' => r = .returned (.bool (upperB b)) ∧ w = w' := by
  unfold upperB
  have H0 := Lib.hid (fun W => in_any b 65 90 65 90 W rfl rfl)
  have H1 := Lib.hid (fun W => in_any b 97 122 97 122 W rfl rfl)
  have H2 := Lib.hid (fun W => in_any b 48 57 48 57 W rfl rfl)
  generalize rangeB 65 90 b = r0 at *
  generalize rangeB 97 122 b = r1 at *
  generalize rangeB 48 57 b = r2 at *
  go_enter Tryd.func45, Tryd.ntmps45
  go_wp2_with (first
        | (go_at_call 50; ((with_reducible refine (H0.out _).mono ?_); rintro e w2 ⟨rfl, rfl⟩))
        | (go_at_call 50; ((with_reducible refine (H1.out _).mono ?_); rintro e w2 ⟨rfl, rfl⟩))
        | (go_at_call 50; ((with_reducible refine (H2.out _).mono ?_); rintro e w2 ⟨rfl, rfl⟩)))
  go_ret
  exact ⟨by simp, rfl⟩

set_option maxRecDepth 100000 in
set_option maxHeartbeats 4000000 in
theorem member_xdigit (b : Nat) (w : World) :
    Calls Tryd.prog 45 #[.string ⟨#[120, 100, 105, 103, 105, 116]⟩, .int .i64 (b : Int)] w fun r w' => r = .returned (.bool (xdigitB b)) ∧ w = w' := by
  unfold xdigitB
  have H0 := Lib.hid (fun W => in_any b 65 90 65 90 W rfl rfl)
  have H1 := Lib.hid (fun W => in_any b 97 122 97 122 W rfl rfl)
  have H2 := Lib.hid (fun W => in_any b 48 57 48 57 W rfl rfl)
  have H3 := Lib.hid (fun W => in_any b 65 70 65 70 W rfl rfl)
  have H4 := Lib.hid (fun W => in_any b 97 102 97 102 W rfl rfl)
  generalize rangeB 65 90 b = r0 at *
  generalize rangeB 97 122 b = r1 at *
  generalize rangeB 48 57 b = r2 at *
  generalize rangeB 65 70 b = r3 at *
  generalize rangeB 97 102 b = r4 at *
  cases r2 <;> cases r3
  all_goals
    go_enter Tryd.func45, Tryd.ntmps45
    go_wp2_with (first
        | (go_at_call 50; ((with_reducible refine (H0.out _).mono ?_); rintro e w2 ⟨rfl, rfl⟩))
        | (go_at_call 50; ((with_reducible refine (H1.out _).mono ?_); rintro e w2 ⟨rfl, rfl⟩))
        | (go_at_call 50; ((with_reducible refine (H2.out _).mono ?_); rintro e w2 ⟨rfl, rfl⟩))
        | (go_at_call 50; ((with_reducible refine (H3.out _).mono ?_); rintro e w2 ⟨rfl, rfl⟩))
        | (go_at_call 50; ((with_reducible refine (H4.out _).mono ?_); rintro e w2 ⟨rfl, rfl⟩)))
    go_ret
    exact ⟨by simp, rfl⟩

end Go.Proofs.YteahmkhmkalimaaDoor
