/- The law ClassParts as a walk, by the kinds of bytes. No condition but where the error values lie. -/
import Derived.Test.YteahmkhmkalimaaDoorClassA
namespace Go.Proofs.YteahmkhmkalimaaDoor
open Go.RowKit

/-- A byte's kind: which classes it is in, and whether it is a blank, below 128, an underscore. -/
def kindB (b : Nat) : List Bool := [alnumB b, alphaB b, blankB b, cntrlB b, digitB b, graphB b, lowerB b, printB b, punctB b, spaceB b, upperB b, xdigitB b, b == 32, decide (b < 128), b == 95]
theorem other_moves : ∀ x : Fin 256, (otherB x.val == x.val) = !(alphaB x.val) := by decide +kernel

set_option maxRecDepth 100000 in
set_option maxHeartbeats 8000000 in
theorem parts_0 (b : Nat) (A : Nat → Addr) (w : World) (hb : b < 256) (hA : ErrsAt w A) (hk : kindB b = [false, false, false, false, false, false, false, false, false, false, false, false, false, false, false]) :
    Calls Tryd.prog 7 #[.int .u8 (b : Int)] w fun r w' => r = .returned (.bool true) ∧ Ext w w' := by
  unfold kindB at hk
  simp only [List.cons.injEq, and_true] at hk
  obtain ⟨h_alnum, h_alpha, h_blank, h_cntrl, h_digit, h_graph, h_lower, h_print, h_punct, h_space, h_upper, h_xdigit, g32, g128, g95⟩ := hk
  have H_alnum := Lib.hid (fun W => has_alnum b W hb)
  rw [h_alnum] at H_alnum
  have H_alpha := Lib.hid (fun W => has_alpha b W hb)
  rw [h_alpha] at H_alpha
  have H_blank := Lib.hid (fun W => has_blank b W hb)
  rw [h_blank] at H_blank
  have H_cntrl := Lib.hid (fun W => has_cntrl b W hb)
  rw [h_cntrl] at H_cntrl
  have H_digit := Lib.hid (fun W => has_digit b W hb)
  rw [h_digit] at H_digit
  have H_graph := Lib.hid (fun W => has_graph b W hb)
  rw [h_graph] at H_graph
  have H_lower := Lib.hid (fun W => has_lower b W hb)
  rw [h_lower] at H_lower
  have H_print := Lib.hid (fun W => has_print b W hb)
  rw [h_print] at H_print
  have H_punct := Lib.hid (fun W => has_punct b W hb)
  rw [h_punct] at H_punct
  have H_space := Lib.hid (fun W => has_space b W hb)
  rw [h_space] at H_space
  have H_upper := Lib.hid (fun W => has_upper b W hb)
  rw [h_upper] at H_upper
  have H_xdigit := Lib.hid (fun W => has_xdigit b W hb)
  rw [h_xdigit] at H_xdigit
  have HL := Lib.hid (classLives_any A w hA)
  have HO := Lib.hid (fun W => other_any b W hb)
  have hw : wordB b = false := by unfold wordB; rw [g95, h_alnum]; rfl
  have HW := Lib.hid (fun W => word_any b W hb)
  rw [hw] at HW
  have ho := other_moves ⟨b, hb⟩
  simp only at ho
  rw [h_alpha] at ho
  have e32 : ((b : Int) == 32) = false := by rw [← g32, Bool.eq_iff_iff, beq_iff_eq, beq_iff_eq]; omega
  have e95 : ((b : Int) == 95) = false := by rw [← g95, Bool.eq_iff_iff, beq_iff_eq, beq_iff_eq]; omega
  have l128 : decide ((b : Int) < 128) = false := by rw [← g128, decide_eq_decide]; omega
  have eo : ((otherB b : Int) != (b : Int)) = false := by
    have : ((otherB b : Int) == (b : Int)) = (otherB b == b) := by rw [Bool.eq_iff_iff, beq_iff_eq, beq_iff_eq]; omega
    rw [bne, this, ho]; rfl
  clear h_alnum h_alpha h_blank h_cntrl h_digit h_graph h_lower h_print h_punct h_space h_upper h_xdigit g32 g128 g95 hw ho hA
  generalize otherB b = ob at *
  go_enter Tryd.func7, Tryd.ntmps7
  go_wp2_with (first
    | (go_at_call 22; refine HL.out.mono ?_; rintro e w1 ⟨rfl, hx⟩)
    | (go_at_call 28; ((with_reducible refine (H_alnum.out _).mono ?_); rintro e w2 ⟨rfl, hx2⟩; replace hx := hx.trans hx2; clear hx2))
    | (go_at_call 28; ((with_reducible refine (H_alpha.out _).mono ?_); rintro e w2 ⟨rfl, hx2⟩; replace hx := hx.trans hx2; clear hx2))
    | (go_at_call 28; ((with_reducible refine (H_blank.out _).mono ?_); rintro e w2 ⟨rfl, hx2⟩; replace hx := hx.trans hx2; clear hx2))
    | (go_at_call 28; ((with_reducible refine (H_cntrl.out _).mono ?_); rintro e w2 ⟨rfl, hx2⟩; replace hx := hx.trans hx2; clear hx2))
    | (go_at_call 28; ((with_reducible refine (H_digit.out _).mono ?_); rintro e w2 ⟨rfl, hx2⟩; replace hx := hx.trans hx2; clear hx2))
    | (go_at_call 28; ((with_reducible refine (H_graph.out _).mono ?_); rintro e w2 ⟨rfl, hx2⟩; replace hx := hx.trans hx2; clear hx2))
    | (go_at_call 28; ((with_reducible refine (H_lower.out _).mono ?_); rintro e w2 ⟨rfl, hx2⟩; replace hx := hx.trans hx2; clear hx2))
    | (go_at_call 28; ((with_reducible refine (H_print.out _).mono ?_); rintro e w2 ⟨rfl, hx2⟩; replace hx := hx.trans hx2; clear hx2))
    | (go_at_call 28; ((with_reducible refine (H_punct.out _).mono ?_); rintro e w2 ⟨rfl, hx2⟩; replace hx := hx.trans hx2; clear hx2))
    | (go_at_call 28; ((with_reducible refine (H_space.out _).mono ?_); rintro e w2 ⟨rfl, hx2⟩; replace hx := hx.trans hx2; clear hx2))
    | (go_at_call 28; ((with_reducible refine (H_upper.out _).mono ?_); rintro e w2 ⟨rfl, hx2⟩; replace hx := hx.trans hx2; clear hx2))
    | (go_at_call 28; ((with_reducible refine (H_xdigit.out _).mono ?_); rintro e w2 ⟨rfl, hx2⟩; replace hx := hx.trans hx2; clear hx2))
    | (go_at_call 29; ((with_reducible refine (HO.out _).mono ?_); rintro e w2 ⟨rfl, rfl⟩))
    | (go_at_call 30; ((with_reducible refine (HW.out _).mono ?_); rintro e w2 ⟨rfl, rfl⟩)))
  go_ret
  exact ⟨rfl, hx⟩

set_option maxRecDepth 100000 in
set_option maxHeartbeats 8000000 in
theorem parts_1 (b : Nat) (A : Nat → Addr) (w : World) (hb : b < 256) (hA : ErrsAt w A) (hk : kindB b = [false, false, false, false, false, true, false, true, true, false, false, false, false, true, false]) :
    Calls Tryd.prog 7 #[.int .u8 (b : Int)] w fun r w' => r = .returned (.bool true) ∧ Ext w w' := by
  unfold kindB at hk
  simp only [List.cons.injEq, and_true] at hk
  obtain ⟨h_alnum, h_alpha, h_blank, h_cntrl, h_digit, h_graph, h_lower, h_print, h_punct, h_space, h_upper, h_xdigit, g32, g128, g95⟩ := hk
  have H_alnum := Lib.hid (fun W => has_alnum b W hb)
  rw [h_alnum] at H_alnum
  have H_alpha := Lib.hid (fun W => has_alpha b W hb)
  rw [h_alpha] at H_alpha
  have H_blank := Lib.hid (fun W => has_blank b W hb)
  rw [h_blank] at H_blank
  have H_cntrl := Lib.hid (fun W => has_cntrl b W hb)
  rw [h_cntrl] at H_cntrl
  have H_digit := Lib.hid (fun W => has_digit b W hb)
  rw [h_digit] at H_digit
  have H_graph := Lib.hid (fun W => has_graph b W hb)
  rw [h_graph] at H_graph
  have H_lower := Lib.hid (fun W => has_lower b W hb)
  rw [h_lower] at H_lower
  have H_print := Lib.hid (fun W => has_print b W hb)
  rw [h_print] at H_print
  have H_punct := Lib.hid (fun W => has_punct b W hb)
  rw [h_punct] at H_punct
  have H_space := Lib.hid (fun W => has_space b W hb)
  rw [h_space] at H_space
  have H_upper := Lib.hid (fun W => has_upper b W hb)
  rw [h_upper] at H_upper
  have H_xdigit := Lib.hid (fun W => has_xdigit b W hb)
  rw [h_xdigit] at H_xdigit
  have HL := Lib.hid (classLives_any A w hA)
  have HO := Lib.hid (fun W => other_any b W hb)
  have hw : wordB b = false := by unfold wordB; rw [g95, h_alnum]; rfl
  have HW := Lib.hid (fun W => word_any b W hb)
  rw [hw] at HW
  have ho := other_moves ⟨b, hb⟩
  simp only at ho
  rw [h_alpha] at ho
  have e32 : ((b : Int) == 32) = false := by rw [← g32, Bool.eq_iff_iff, beq_iff_eq, beq_iff_eq]; omega
  have e95 : ((b : Int) == 95) = false := by rw [← g95, Bool.eq_iff_iff, beq_iff_eq, beq_iff_eq]; omega
  have l128 : decide ((b : Int) < 128) = true := by rw [← g128, decide_eq_decide]; omega
  have eo : ((otherB b : Int) != (b : Int)) = false := by
    have : ((otherB b : Int) == (b : Int)) = (otherB b == b) := by rw [Bool.eq_iff_iff, beq_iff_eq, beq_iff_eq]; omega
    rw [bne, this, ho]; rfl
  clear h_alnum h_alpha h_blank h_cntrl h_digit h_graph h_lower h_print h_punct h_space h_upper h_xdigit g32 g128 g95 hw ho hA
  generalize otherB b = ob at *
  go_enter Tryd.func7, Tryd.ntmps7
  go_wp2_with (first
    | (go_at_call 22; refine HL.out.mono ?_; rintro e w1 ⟨rfl, hx⟩)
    | (go_at_call 28; ((with_reducible refine (H_alnum.out _).mono ?_); rintro e w2 ⟨rfl, hx2⟩; replace hx := hx.trans hx2; clear hx2))
    | (go_at_call 28; ((with_reducible refine (H_alpha.out _).mono ?_); rintro e w2 ⟨rfl, hx2⟩; replace hx := hx.trans hx2; clear hx2))
    | (go_at_call 28; ((with_reducible refine (H_blank.out _).mono ?_); rintro e w2 ⟨rfl, hx2⟩; replace hx := hx.trans hx2; clear hx2))
    | (go_at_call 28; ((with_reducible refine (H_cntrl.out _).mono ?_); rintro e w2 ⟨rfl, hx2⟩; replace hx := hx.trans hx2; clear hx2))
    | (go_at_call 28; ((with_reducible refine (H_digit.out _).mono ?_); rintro e w2 ⟨rfl, hx2⟩; replace hx := hx.trans hx2; clear hx2))
    | (go_at_call 28; ((with_reducible refine (H_graph.out _).mono ?_); rintro e w2 ⟨rfl, hx2⟩; replace hx := hx.trans hx2; clear hx2))
    | (go_at_call 28; ((with_reducible refine (H_lower.out _).mono ?_); rintro e w2 ⟨rfl, hx2⟩; replace hx := hx.trans hx2; clear hx2))
    | (go_at_call 28; ((with_reducible refine (H_print.out _).mono ?_); rintro e w2 ⟨rfl, hx2⟩; replace hx := hx.trans hx2; clear hx2))
    | (go_at_call 28; ((with_reducible refine (H_punct.out _).mono ?_); rintro e w2 ⟨rfl, hx2⟩; replace hx := hx.trans hx2; clear hx2))
    | (go_at_call 28; ((with_reducible refine (H_space.out _).mono ?_); rintro e w2 ⟨rfl, hx2⟩; replace hx := hx.trans hx2; clear hx2))
    | (go_at_call 28; ((with_reducible refine (H_upper.out _).mono ?_); rintro e w2 ⟨rfl, hx2⟩; replace hx := hx.trans hx2; clear hx2))
    | (go_at_call 28; ((with_reducible refine (H_xdigit.out _).mono ?_); rintro e w2 ⟨rfl, hx2⟩; replace hx := hx.trans hx2; clear hx2))
    | (go_at_call 29; ((with_reducible refine (HO.out _).mono ?_); rintro e w2 ⟨rfl, rfl⟩))
    | (go_at_call 30; ((with_reducible refine (HW.out _).mono ?_); rintro e w2 ⟨rfl, rfl⟩)))
  go_ret
  exact ⟨rfl, hx⟩

set_option maxRecDepth 100000 in
set_option maxHeartbeats 8000000 in
theorem parts_2 (b : Nat) (A : Nat → Addr) (w : World) (hb : b < 256) (hA : ErrsAt w A) (hk : kindB b = [false, false, false, false, false, true, false, true, true, false, false, false, false, true, true]) :
    Calls Tryd.prog 7 #[.int .u8 (b : Int)] w fun r w' => r = .returned (.bool true) ∧ Ext w w' := by
  unfold kindB at hk
  simp only [List.cons.injEq, and_true] at hk
  obtain ⟨h_alnum, h_alpha, h_blank, h_cntrl, h_digit, h_graph, h_lower, h_print, h_punct, h_space, h_upper, h_xdigit, g32, g128, g95⟩ := hk
  have H_alnum := Lib.hid (fun W => has_alnum b W hb)
  rw [h_alnum] at H_alnum
  have H_alpha := Lib.hid (fun W => has_alpha b W hb)
  rw [h_alpha] at H_alpha
  have H_blank := Lib.hid (fun W => has_blank b W hb)
  rw [h_blank] at H_blank
  have H_cntrl := Lib.hid (fun W => has_cntrl b W hb)
  rw [h_cntrl] at H_cntrl
  have H_digit := Lib.hid (fun W => has_digit b W hb)
  rw [h_digit] at H_digit
  have H_graph := Lib.hid (fun W => has_graph b W hb)
  rw [h_graph] at H_graph
  have H_lower := Lib.hid (fun W => has_lower b W hb)
  rw [h_lower] at H_lower
  have H_print := Lib.hid (fun W => has_print b W hb)
  rw [h_print] at H_print
  have H_punct := Lib.hid (fun W => has_punct b W hb)
  rw [h_punct] at H_punct
  have H_space := Lib.hid (fun W => has_space b W hb)
  rw [h_space] at H_space
  have H_upper := Lib.hid (fun W => has_upper b W hb)
  rw [h_upper] at H_upper
  have H_xdigit := Lib.hid (fun W => has_xdigit b W hb)
  rw [h_xdigit] at H_xdigit
  have HL := Lib.hid (classLives_any A w hA)
  have HO := Lib.hid (fun W => other_any b W hb)
  have hw : wordB b = true := by unfold wordB; rw [g95, h_alnum]; rfl
  have HW := Lib.hid (fun W => word_any b W hb)
  rw [hw] at HW
  have ho := other_moves ⟨b, hb⟩
  simp only at ho
  rw [h_alpha] at ho
  have e32 : ((b : Int) == 32) = false := by rw [← g32, Bool.eq_iff_iff, beq_iff_eq, beq_iff_eq]; omega
  have e95 : ((b : Int) == 95) = true := by rw [← g95, Bool.eq_iff_iff, beq_iff_eq, beq_iff_eq]; omega
  have l128 : decide ((b : Int) < 128) = true := by rw [← g128, decide_eq_decide]; omega
  have eo : ((otherB b : Int) != (b : Int)) = false := by
    have : ((otherB b : Int) == (b : Int)) = (otherB b == b) := by rw [Bool.eq_iff_iff, beq_iff_eq, beq_iff_eq]; omega
    rw [bne, this, ho]; rfl
  clear h_alnum h_alpha h_blank h_cntrl h_digit h_graph h_lower h_print h_punct h_space h_upper h_xdigit g32 g128 g95 hw ho hA
  generalize otherB b = ob at *
  go_enter Tryd.func7, Tryd.ntmps7
  go_wp2_with (first
    | (go_at_call 22; refine HL.out.mono ?_; rintro e w1 ⟨rfl, hx⟩)
    | (go_at_call 28; ((with_reducible refine (H_alnum.out _).mono ?_); rintro e w2 ⟨rfl, hx2⟩; replace hx := hx.trans hx2; clear hx2))
    | (go_at_call 28; ((with_reducible refine (H_alpha.out _).mono ?_); rintro e w2 ⟨rfl, hx2⟩; replace hx := hx.trans hx2; clear hx2))
    | (go_at_call 28; ((with_reducible refine (H_blank.out _).mono ?_); rintro e w2 ⟨rfl, hx2⟩; replace hx := hx.trans hx2; clear hx2))
    | (go_at_call 28; ((with_reducible refine (H_cntrl.out _).mono ?_); rintro e w2 ⟨rfl, hx2⟩; replace hx := hx.trans hx2; clear hx2))
    | (go_at_call 28; ((with_reducible refine (H_digit.out _).mono ?_); rintro e w2 ⟨rfl, hx2⟩; replace hx := hx.trans hx2; clear hx2))
    | (go_at_call 28; ((with_reducible refine (H_graph.out _).mono ?_); rintro e w2 ⟨rfl, hx2⟩; replace hx := hx.trans hx2; clear hx2))
    | (go_at_call 28; ((with_reducible refine (H_lower.out _).mono ?_); rintro e w2 ⟨rfl, hx2⟩; replace hx := hx.trans hx2; clear hx2))
    | (go_at_call 28; ((with_reducible refine (H_print.out _).mono ?_); rintro e w2 ⟨rfl, hx2⟩; replace hx := hx.trans hx2; clear hx2))
    | (go_at_call 28; ((with_reducible refine (H_punct.out _).mono ?_); rintro e w2 ⟨rfl, hx2⟩; replace hx := hx.trans hx2; clear hx2))
    | (go_at_call 28; ((with_reducible refine (H_space.out _).mono ?_); rintro e w2 ⟨rfl, hx2⟩; replace hx := hx.trans hx2; clear hx2))
    | (go_at_call 28; ((with_reducible refine (H_upper.out _).mono ?_); rintro e w2 ⟨rfl, hx2⟩; replace hx := hx.trans hx2; clear hx2))
    | (go_at_call 28; ((with_reducible refine (H_xdigit.out _).mono ?_); rintro e w2 ⟨rfl, hx2⟩; replace hx := hx.trans hx2; clear hx2))
    | (go_at_call 29; ((with_reducible refine (HO.out _).mono ?_); rintro e w2 ⟨rfl, rfl⟩))
    | (go_at_call 30; ((with_reducible refine (HW.out _).mono ?_); rintro e w2 ⟨rfl, rfl⟩)))
  go_ret
  exact ⟨rfl, hx⟩

set_option maxRecDepth 100000 in
set_option maxHeartbeats 8000000 in
theorem parts_3 (b : Nat) (A : Nat → Addr) (w : World) (hb : b < 256) (hA : ErrsAt w A) (hk : kindB b = [false, false, false, true, false, false, false, false, false, false, false, false, false, true, false]) :
    Calls Tryd.prog 7 #[.int .u8 (b : Int)] w fun r w' => r = .returned (.bool true) ∧ Ext w w' := by
  unfold kindB at hk
  simp only [List.cons.injEq, and_true] at hk
  obtain ⟨h_alnum, h_alpha, h_blank, h_cntrl, h_digit, h_graph, h_lower, h_print, h_punct, h_space, h_upper, h_xdigit, g32, g128, g95⟩ := hk
  have H_alnum := Lib.hid (fun W => has_alnum b W hb)
  rw [h_alnum] at H_alnum
  have H_alpha := Lib.hid (fun W => has_alpha b W hb)
  rw [h_alpha] at H_alpha
  have H_blank := Lib.hid (fun W => has_blank b W hb)
  rw [h_blank] at H_blank
  have H_cntrl := Lib.hid (fun W => has_cntrl b W hb)
  rw [h_cntrl] at H_cntrl
  have H_digit := Lib.hid (fun W => has_digit b W hb)
  rw [h_digit] at H_digit
  have H_graph := Lib.hid (fun W => has_graph b W hb)
  rw [h_graph] at H_graph
  have H_lower := Lib.hid (fun W => has_lower b W hb)
  rw [h_lower] at H_lower
  have H_print := Lib.hid (fun W => has_print b W hb)
  rw [h_print] at H_print
  have H_punct := Lib.hid (fun W => has_punct b W hb)
  rw [h_punct] at H_punct
  have H_space := Lib.hid (fun W => has_space b W hb)
  rw [h_space] at H_space
  have H_upper := Lib.hid (fun W => has_upper b W hb)
  rw [h_upper] at H_upper
  have H_xdigit := Lib.hid (fun W => has_xdigit b W hb)
  rw [h_xdigit] at H_xdigit
  have HL := Lib.hid (classLives_any A w hA)
  have HO := Lib.hid (fun W => other_any b W hb)
  have hw : wordB b = false := by unfold wordB; rw [g95, h_alnum]; rfl
  have HW := Lib.hid (fun W => word_any b W hb)
  rw [hw] at HW
  have ho := other_moves ⟨b, hb⟩
  simp only at ho
  rw [h_alpha] at ho
  have e32 : ((b : Int) == 32) = false := by rw [← g32, Bool.eq_iff_iff, beq_iff_eq, beq_iff_eq]; omega
  have e95 : ((b : Int) == 95) = false := by rw [← g95, Bool.eq_iff_iff, beq_iff_eq, beq_iff_eq]; omega
  have l128 : decide ((b : Int) < 128) = true := by rw [← g128, decide_eq_decide]; omega
  have eo : ((otherB b : Int) != (b : Int)) = false := by
    have : ((otherB b : Int) == (b : Int)) = (otherB b == b) := by rw [Bool.eq_iff_iff, beq_iff_eq, beq_iff_eq]; omega
    rw [bne, this, ho]; rfl
  clear h_alnum h_alpha h_blank h_cntrl h_digit h_graph h_lower h_print h_punct h_space h_upper h_xdigit g32 g128 g95 hw ho hA
  generalize otherB b = ob at *
  go_enter Tryd.func7, Tryd.ntmps7
  go_wp2_with (first
    | (go_at_call 22; refine HL.out.mono ?_; rintro e w1 ⟨rfl, hx⟩)
    | (go_at_call 28; ((with_reducible refine (H_alnum.out _).mono ?_); rintro e w2 ⟨rfl, hx2⟩; replace hx := hx.trans hx2; clear hx2))
    | (go_at_call 28; ((with_reducible refine (H_alpha.out _).mono ?_); rintro e w2 ⟨rfl, hx2⟩; replace hx := hx.trans hx2; clear hx2))
    | (go_at_call 28; ((with_reducible refine (H_blank.out _).mono ?_); rintro e w2 ⟨rfl, hx2⟩; replace hx := hx.trans hx2; clear hx2))
    | (go_at_call 28; ((with_reducible refine (H_cntrl.out _).mono ?_); rintro e w2 ⟨rfl, hx2⟩; replace hx := hx.trans hx2; clear hx2))
    | (go_at_call 28; ((with_reducible refine (H_digit.out _).mono ?_); rintro e w2 ⟨rfl, hx2⟩; replace hx := hx.trans hx2; clear hx2))
    | (go_at_call 28; ((with_reducible refine (H_graph.out _).mono ?_); rintro e w2 ⟨rfl, hx2⟩; replace hx := hx.trans hx2; clear hx2))
    | (go_at_call 28; ((with_reducible refine (H_lower.out _).mono ?_); rintro e w2 ⟨rfl, hx2⟩; replace hx := hx.trans hx2; clear hx2))
    | (go_at_call 28; ((with_reducible refine (H_print.out _).mono ?_); rintro e w2 ⟨rfl, hx2⟩; replace hx := hx.trans hx2; clear hx2))
    | (go_at_call 28; ((with_reducible refine (H_punct.out _).mono ?_); rintro e w2 ⟨rfl, hx2⟩; replace hx := hx.trans hx2; clear hx2))
    | (go_at_call 28; ((with_reducible refine (H_space.out _).mono ?_); rintro e w2 ⟨rfl, hx2⟩; replace hx := hx.trans hx2; clear hx2))
    | (go_at_call 28; ((with_reducible refine (H_upper.out _).mono ?_); rintro e w2 ⟨rfl, hx2⟩; replace hx := hx.trans hx2; clear hx2))
    | (go_at_call 28; ((with_reducible refine (H_xdigit.out _).mono ?_); rintro e w2 ⟨rfl, hx2⟩; replace hx := hx.trans hx2; clear hx2))
    | (go_at_call 29; ((with_reducible refine (HO.out _).mono ?_); rintro e w2 ⟨rfl, rfl⟩))
    | (go_at_call 30; ((with_reducible refine (HW.out _).mono ?_); rintro e w2 ⟨rfl, rfl⟩)))
  go_ret
  exact ⟨rfl, hx⟩

set_option maxRecDepth 100000 in
set_option maxHeartbeats 8000000 in
theorem parts_4 (b : Nat) (A : Nat → Addr) (w : World) (hb : b < 256) (hA : ErrsAt w A) (hk : kindB b = [false, false, false, true, false, false, false, false, false, true, false, false, false, true, false]) :
    Calls Tryd.prog 7 #[.int .u8 (b : Int)] w fun r w' => r = .returned (.bool true) ∧ Ext w w' := by
  unfold kindB at hk
  simp only [List.cons.injEq, and_true] at hk
  obtain ⟨h_alnum, h_alpha, h_blank, h_cntrl, h_digit, h_graph, h_lower, h_print, h_punct, h_space, h_upper, h_xdigit, g32, g128, g95⟩ := hk
  have H_alnum := Lib.hid (fun W => has_alnum b W hb)
  rw [h_alnum] at H_alnum
  have H_alpha := Lib.hid (fun W => has_alpha b W hb)
  rw [h_alpha] at H_alpha
  have H_blank := Lib.hid (fun W => has_blank b W hb)
  rw [h_blank] at H_blank
  have H_cntrl := Lib.hid (fun W => has_cntrl b W hb)
  rw [h_cntrl] at H_cntrl
  have H_digit := Lib.hid (fun W => has_digit b W hb)
  rw [h_digit] at H_digit
  have H_graph := Lib.hid (fun W => has_graph b W hb)
  rw [h_graph] at H_graph
  have H_lower := Lib.hid (fun W => has_lower b W hb)
  rw [h_lower] at H_lower
  have H_print := Lib.hid (fun W => has_print b W hb)
  rw [h_print] at H_print
  have H_punct := Lib.hid (fun W => has_punct b W hb)
  rw [h_punct] at H_punct
  have H_space := Lib.hid (fun W => has_space b W hb)
  rw [h_space] at H_space
  have H_upper := Lib.hid (fun W => has_upper b W hb)
  rw [h_upper] at H_upper
  have H_xdigit := Lib.hid (fun W => has_xdigit b W hb)
  rw [h_xdigit] at H_xdigit
  have HL := Lib.hid (classLives_any A w hA)
  have HO := Lib.hid (fun W => other_any b W hb)
  have hw : wordB b = false := by unfold wordB; rw [g95, h_alnum]; rfl
  have HW := Lib.hid (fun W => word_any b W hb)
  rw [hw] at HW
  have ho := other_moves ⟨b, hb⟩
  simp only at ho
  rw [h_alpha] at ho
  have e32 : ((b : Int) == 32) = false := by rw [← g32, Bool.eq_iff_iff, beq_iff_eq, beq_iff_eq]; omega
  have e95 : ((b : Int) == 95) = false := by rw [← g95, Bool.eq_iff_iff, beq_iff_eq, beq_iff_eq]; omega
  have l128 : decide ((b : Int) < 128) = true := by rw [← g128, decide_eq_decide]; omega
  have eo : ((otherB b : Int) != (b : Int)) = false := by
    have : ((otherB b : Int) == (b : Int)) = (otherB b == b) := by rw [Bool.eq_iff_iff, beq_iff_eq, beq_iff_eq]; omega
    rw [bne, this, ho]; rfl
  clear h_alnum h_alpha h_blank h_cntrl h_digit h_graph h_lower h_print h_punct h_space h_upper h_xdigit g32 g128 g95 hw ho hA
  generalize otherB b = ob at *
  go_enter Tryd.func7, Tryd.ntmps7
  go_wp2_with (first
    | (go_at_call 22; refine HL.out.mono ?_; rintro e w1 ⟨rfl, hx⟩)
    | (go_at_call 28; ((with_reducible refine (H_alnum.out _).mono ?_); rintro e w2 ⟨rfl, hx2⟩; replace hx := hx.trans hx2; clear hx2))
    | (go_at_call 28; ((with_reducible refine (H_alpha.out _).mono ?_); rintro e w2 ⟨rfl, hx2⟩; replace hx := hx.trans hx2; clear hx2))
    | (go_at_call 28; ((with_reducible refine (H_blank.out _).mono ?_); rintro e w2 ⟨rfl, hx2⟩; replace hx := hx.trans hx2; clear hx2))
    | (go_at_call 28; ((with_reducible refine (H_cntrl.out _).mono ?_); rintro e w2 ⟨rfl, hx2⟩; replace hx := hx.trans hx2; clear hx2))
    | (go_at_call 28; ((with_reducible refine (H_digit.out _).mono ?_); rintro e w2 ⟨rfl, hx2⟩; replace hx := hx.trans hx2; clear hx2))
    | (go_at_call 28; ((with_reducible refine (H_graph.out _).mono ?_); rintro e w2 ⟨rfl, hx2⟩; replace hx := hx.trans hx2; clear hx2))
    | (go_at_call 28; ((with_reducible refine (H_lower.out _).mono ?_); rintro e w2 ⟨rfl, hx2⟩; replace hx := hx.trans hx2; clear hx2))
    | (go_at_call 28; ((with_reducible refine (H_print.out _).mono ?_); rintro e w2 ⟨rfl, hx2⟩; replace hx := hx.trans hx2; clear hx2))
    | (go_at_call 28; ((with_reducible refine (H_punct.out _).mono ?_); rintro e w2 ⟨rfl, hx2⟩; replace hx := hx.trans hx2; clear hx2))
    | (go_at_call 28; ((with_reducible refine (H_space.out _).mono ?_); rintro e w2 ⟨rfl, hx2⟩; replace hx := hx.trans hx2; clear hx2))
    | (go_at_call 28; ((with_reducible refine (H_upper.out _).mono ?_); rintro e w2 ⟨rfl, hx2⟩; replace hx := hx.trans hx2; clear hx2))
    | (go_at_call 28; ((with_reducible refine (H_xdigit.out _).mono ?_); rintro e w2 ⟨rfl, hx2⟩; replace hx := hx.trans hx2; clear hx2))
    | (go_at_call 29; ((with_reducible refine (HO.out _).mono ?_); rintro e w2 ⟨rfl, rfl⟩))
    | (go_at_call 30; ((with_reducible refine (HW.out _).mono ?_); rintro e w2 ⟨rfl, rfl⟩)))
  go_ret
  exact ⟨rfl, hx⟩

set_option maxRecDepth 100000 in
set_option maxHeartbeats 8000000 in
theorem parts_5 (b : Nat) (A : Nat → Addr) (w : World) (hb : b < 256) (hA : ErrsAt w A) (hk : kindB b = [false, false, true, false, false, false, false, true, false, true, false, false, true, true, false]) :
    Calls Tryd.prog 7 #[.int .u8 (b : Int)] w fun r w' => r = .returned (.bool true) ∧ Ext w w' := by
  unfold kindB at hk
  simp only [List.cons.injEq, and_true] at hk
  obtain ⟨h_alnum, h_alpha, h_blank, h_cntrl, h_digit, h_graph, h_lower, h_print, h_punct, h_space, h_upper, h_xdigit, g32, g128, g95⟩ := hk
  have H_alnum := Lib.hid (fun W => has_alnum b W hb)
  rw [h_alnum] at H_alnum
  have H_alpha := Lib.hid (fun W => has_alpha b W hb)
  rw [h_alpha] at H_alpha
  have H_blank := Lib.hid (fun W => has_blank b W hb)
  rw [h_blank] at H_blank
  have H_cntrl := Lib.hid (fun W => has_cntrl b W hb)
  rw [h_cntrl] at H_cntrl
  have H_digit := Lib.hid (fun W => has_digit b W hb)
  rw [h_digit] at H_digit
  have H_graph := Lib.hid (fun W => has_graph b W hb)
  rw [h_graph] at H_graph
  have H_lower := Lib.hid (fun W => has_lower b W hb)
  rw [h_lower] at H_lower
  have H_print := Lib.hid (fun W => has_print b W hb)
  rw [h_print] at H_print
  have H_punct := Lib.hid (fun W => has_punct b W hb)
  rw [h_punct] at H_punct
  have H_space := Lib.hid (fun W => has_space b W hb)
  rw [h_space] at H_space
  have H_upper := Lib.hid (fun W => has_upper b W hb)
  rw [h_upper] at H_upper
  have H_xdigit := Lib.hid (fun W => has_xdigit b W hb)
  rw [h_xdigit] at H_xdigit
  have HL := Lib.hid (classLives_any A w hA)
  have HO := Lib.hid (fun W => other_any b W hb)
  have hw : wordB b = false := by unfold wordB; rw [g95, h_alnum]; rfl
  have HW := Lib.hid (fun W => word_any b W hb)
  rw [hw] at HW
  have ho := other_moves ⟨b, hb⟩
  simp only at ho
  rw [h_alpha] at ho
  have e32 : ((b : Int) == 32) = true := by rw [← g32, Bool.eq_iff_iff, beq_iff_eq, beq_iff_eq]; omega
  have e95 : ((b : Int) == 95) = false := by rw [← g95, Bool.eq_iff_iff, beq_iff_eq, beq_iff_eq]; omega
  have l128 : decide ((b : Int) < 128) = true := by rw [← g128, decide_eq_decide]; omega
  have eo : ((otherB b : Int) != (b : Int)) = false := by
    have : ((otherB b : Int) == (b : Int)) = (otherB b == b) := by rw [Bool.eq_iff_iff, beq_iff_eq, beq_iff_eq]; omega
    rw [bne, this, ho]; rfl
  clear h_alnum h_alpha h_blank h_cntrl h_digit h_graph h_lower h_print h_punct h_space h_upper h_xdigit g32 g128 g95 hw ho hA
  generalize otherB b = ob at *
  go_enter Tryd.func7, Tryd.ntmps7
  go_wp2_with (first
    | (go_at_call 22; refine HL.out.mono ?_; rintro e w1 ⟨rfl, hx⟩)
    | (go_at_call 28; ((with_reducible refine (H_alnum.out _).mono ?_); rintro e w2 ⟨rfl, hx2⟩; replace hx := hx.trans hx2; clear hx2))
    | (go_at_call 28; ((with_reducible refine (H_alpha.out _).mono ?_); rintro e w2 ⟨rfl, hx2⟩; replace hx := hx.trans hx2; clear hx2))
    | (go_at_call 28; ((with_reducible refine (H_blank.out _).mono ?_); rintro e w2 ⟨rfl, hx2⟩; replace hx := hx.trans hx2; clear hx2))
    | (go_at_call 28; ((with_reducible refine (H_cntrl.out _).mono ?_); rintro e w2 ⟨rfl, hx2⟩; replace hx := hx.trans hx2; clear hx2))
    | (go_at_call 28; ((with_reducible refine (H_digit.out _).mono ?_); rintro e w2 ⟨rfl, hx2⟩; replace hx := hx.trans hx2; clear hx2))
    | (go_at_call 28; ((with_reducible refine (H_graph.out _).mono ?_); rintro e w2 ⟨rfl, hx2⟩; replace hx := hx.trans hx2; clear hx2))
    | (go_at_call 28; ((with_reducible refine (H_lower.out _).mono ?_); rintro e w2 ⟨rfl, hx2⟩; replace hx := hx.trans hx2; clear hx2))
    | (go_at_call 28; ((with_reducible refine (H_print.out _).mono ?_); rintro e w2 ⟨rfl, hx2⟩; replace hx := hx.trans hx2; clear hx2))
    | (go_at_call 28; ((with_reducible refine (H_punct.out _).mono ?_); rintro e w2 ⟨rfl, hx2⟩; replace hx := hx.trans hx2; clear hx2))
    | (go_at_call 28; ((with_reducible refine (H_space.out _).mono ?_); rintro e w2 ⟨rfl, hx2⟩; replace hx := hx.trans hx2; clear hx2))
    | (go_at_call 28; ((with_reducible refine (H_upper.out _).mono ?_); rintro e w2 ⟨rfl, hx2⟩; replace hx := hx.trans hx2; clear hx2))
    | (go_at_call 28; ((with_reducible refine (H_xdigit.out _).mono ?_); rintro e w2 ⟨rfl, hx2⟩; replace hx := hx.trans hx2; clear hx2))
    | (go_at_call 29; ((with_reducible refine (HO.out _).mono ?_); rintro e w2 ⟨rfl, rfl⟩))
    | (go_at_call 30; ((with_reducible refine (HW.out _).mono ?_); rintro e w2 ⟨rfl, rfl⟩)))
  go_ret
  exact ⟨rfl, hx⟩

set_option maxRecDepth 100000 in
set_option maxHeartbeats 8000000 in
theorem parts_6 (b : Nat) (A : Nat → Addr) (w : World) (hb : b < 256) (hA : ErrsAt w A) (hk : kindB b = [false, false, true, true, false, false, false, false, false, true, false, false, false, true, false]) :
    Calls Tryd.prog 7 #[.int .u8 (b : Int)] w fun r w' => r = .returned (.bool true) ∧ Ext w w' := by
  unfold kindB at hk
  simp only [List.cons.injEq, and_true] at hk
  obtain ⟨h_alnum, h_alpha, h_blank, h_cntrl, h_digit, h_graph, h_lower, h_print, h_punct, h_space, h_upper, h_xdigit, g32, g128, g95⟩ := hk
  have H_alnum := Lib.hid (fun W => has_alnum b W hb)
  rw [h_alnum] at H_alnum
  have H_alpha := Lib.hid (fun W => has_alpha b W hb)
  rw [h_alpha] at H_alpha
  have H_blank := Lib.hid (fun W => has_blank b W hb)
  rw [h_blank] at H_blank
  have H_cntrl := Lib.hid (fun W => has_cntrl b W hb)
  rw [h_cntrl] at H_cntrl
  have H_digit := Lib.hid (fun W => has_digit b W hb)
  rw [h_digit] at H_digit
  have H_graph := Lib.hid (fun W => has_graph b W hb)
  rw [h_graph] at H_graph
  have H_lower := Lib.hid (fun W => has_lower b W hb)
  rw [h_lower] at H_lower
  have H_print := Lib.hid (fun W => has_print b W hb)
  rw [h_print] at H_print
  have H_punct := Lib.hid (fun W => has_punct b W hb)
  rw [h_punct] at H_punct
  have H_space := Lib.hid (fun W => has_space b W hb)
  rw [h_space] at H_space
  have H_upper := Lib.hid (fun W => has_upper b W hb)
  rw [h_upper] at H_upper
  have H_xdigit := Lib.hid (fun W => has_xdigit b W hb)
  rw [h_xdigit] at H_xdigit
  have HL := Lib.hid (classLives_any A w hA)
  have HO := Lib.hid (fun W => other_any b W hb)
  have hw : wordB b = false := by unfold wordB; rw [g95, h_alnum]; rfl
  have HW := Lib.hid (fun W => word_any b W hb)
  rw [hw] at HW
  have ho := other_moves ⟨b, hb⟩
  simp only at ho
  rw [h_alpha] at ho
  have e32 : ((b : Int) == 32) = false := by rw [← g32, Bool.eq_iff_iff, beq_iff_eq, beq_iff_eq]; omega
  have e95 : ((b : Int) == 95) = false := by rw [← g95, Bool.eq_iff_iff, beq_iff_eq, beq_iff_eq]; omega
  have l128 : decide ((b : Int) < 128) = true := by rw [← g128, decide_eq_decide]; omega
  have eo : ((otherB b : Int) != (b : Int)) = false := by
    have : ((otherB b : Int) == (b : Int)) = (otherB b == b) := by rw [Bool.eq_iff_iff, beq_iff_eq, beq_iff_eq]; omega
    rw [bne, this, ho]; rfl
  clear h_alnum h_alpha h_blank h_cntrl h_digit h_graph h_lower h_print h_punct h_space h_upper h_xdigit g32 g128 g95 hw ho hA
  generalize otherB b = ob at *
  go_enter Tryd.func7, Tryd.ntmps7
  go_wp2_with (first
    | (go_at_call 22; refine HL.out.mono ?_; rintro e w1 ⟨rfl, hx⟩)
    | (go_at_call 28; ((with_reducible refine (H_alnum.out _).mono ?_); rintro e w2 ⟨rfl, hx2⟩; replace hx := hx.trans hx2; clear hx2))
    | (go_at_call 28; ((with_reducible refine (H_alpha.out _).mono ?_); rintro e w2 ⟨rfl, hx2⟩; replace hx := hx.trans hx2; clear hx2))
    | (go_at_call 28; ((with_reducible refine (H_blank.out _).mono ?_); rintro e w2 ⟨rfl, hx2⟩; replace hx := hx.trans hx2; clear hx2))
    | (go_at_call 28; ((with_reducible refine (H_cntrl.out _).mono ?_); rintro e w2 ⟨rfl, hx2⟩; replace hx := hx.trans hx2; clear hx2))
    | (go_at_call 28; ((with_reducible refine (H_digit.out _).mono ?_); rintro e w2 ⟨rfl, hx2⟩; replace hx := hx.trans hx2; clear hx2))
    | (go_at_call 28; ((with_reducible refine (H_graph.out _).mono ?_); rintro e w2 ⟨rfl, hx2⟩; replace hx := hx.trans hx2; clear hx2))
    | (go_at_call 28; ((with_reducible refine (H_lower.out _).mono ?_); rintro e w2 ⟨rfl, hx2⟩; replace hx := hx.trans hx2; clear hx2))
    | (go_at_call 28; ((with_reducible refine (H_print.out _).mono ?_); rintro e w2 ⟨rfl, hx2⟩; replace hx := hx.trans hx2; clear hx2))
    | (go_at_call 28; ((with_reducible refine (H_punct.out _).mono ?_); rintro e w2 ⟨rfl, hx2⟩; replace hx := hx.trans hx2; clear hx2))
    | (go_at_call 28; ((with_reducible refine (H_space.out _).mono ?_); rintro e w2 ⟨rfl, hx2⟩; replace hx := hx.trans hx2; clear hx2))
    | (go_at_call 28; ((with_reducible refine (H_upper.out _).mono ?_); rintro e w2 ⟨rfl, hx2⟩; replace hx := hx.trans hx2; clear hx2))
    | (go_at_call 28; ((with_reducible refine (H_xdigit.out _).mono ?_); rintro e w2 ⟨rfl, hx2⟩; replace hx := hx.trans hx2; clear hx2))
    | (go_at_call 29; ((with_reducible refine (HO.out _).mono ?_); rintro e w2 ⟨rfl, rfl⟩))
    | (go_at_call 30; ((with_reducible refine (HW.out _).mono ?_); rintro e w2 ⟨rfl, rfl⟩)))
  go_ret
  exact ⟨rfl, hx⟩

set_option maxRecDepth 100000 in
set_option maxHeartbeats 8000000 in
theorem parts_7 (b : Nat) (A : Nat → Addr) (w : World) (hb : b < 256) (hA : ErrsAt w A) (hk : kindB b = [true, false, false, false, true, true, false, true, false, false, false, true, false, true, false]) :
    Calls Tryd.prog 7 #[.int .u8 (b : Int)] w fun r w' => r = .returned (.bool true) ∧ Ext w w' := by
  unfold kindB at hk
  simp only [List.cons.injEq, and_true] at hk
  obtain ⟨h_alnum, h_alpha, h_blank, h_cntrl, h_digit, h_graph, h_lower, h_print, h_punct, h_space, h_upper, h_xdigit, g32, g128, g95⟩ := hk
  have H_alnum := Lib.hid (fun W => has_alnum b W hb)
  rw [h_alnum] at H_alnum
  have H_alpha := Lib.hid (fun W => has_alpha b W hb)
  rw [h_alpha] at H_alpha
  have H_blank := Lib.hid (fun W => has_blank b W hb)
  rw [h_blank] at H_blank
  have H_cntrl := Lib.hid (fun W => has_cntrl b W hb)
  rw [h_cntrl] at H_cntrl
  have H_digit := Lib.hid (fun W => has_digit b W hb)
  rw [h_digit] at H_digit
  have H_graph := Lib.hid (fun W => has_graph b W hb)
  rw [h_graph] at H_graph
  have H_lower := Lib.hid (fun W => has_lower b W hb)
  rw [h_lower] at H_lower
  have H_print := Lib.hid (fun W => has_print b W hb)
  rw [h_print] at H_print
  have H_punct := Lib.hid (fun W => has_punct b W hb)
  rw [h_punct] at H_punct
  have H_space := Lib.hid (fun W => has_space b W hb)
  rw [h_space] at H_space
  have H_upper := Lib.hid (fun W => has_upper b W hb)
  rw [h_upper] at H_upper
  have H_xdigit := Lib.hid (fun W => has_xdigit b W hb)
  rw [h_xdigit] at H_xdigit
  have HL := Lib.hid (classLives_any A w hA)
  have HO := Lib.hid (fun W => other_any b W hb)
  have hw : wordB b = true := by unfold wordB; rw [g95, h_alnum]; rfl
  have HW := Lib.hid (fun W => word_any b W hb)
  rw [hw] at HW
  have ho := other_moves ⟨b, hb⟩
  simp only at ho
  rw [h_alpha] at ho
  have e32 : ((b : Int) == 32) = false := by rw [← g32, Bool.eq_iff_iff, beq_iff_eq, beq_iff_eq]; omega
  have e95 : ((b : Int) == 95) = false := by rw [← g95, Bool.eq_iff_iff, beq_iff_eq, beq_iff_eq]; omega
  have l128 : decide ((b : Int) < 128) = true := by rw [← g128, decide_eq_decide]; omega
  have eo : ((otherB b : Int) != (b : Int)) = false := by
    have : ((otherB b : Int) == (b : Int)) = (otherB b == b) := by rw [Bool.eq_iff_iff, beq_iff_eq, beq_iff_eq]; omega
    rw [bne, this, ho]; rfl
  clear h_alnum h_alpha h_blank h_cntrl h_digit h_graph h_lower h_print h_punct h_space h_upper h_xdigit g32 g128 g95 hw ho hA
  generalize otherB b = ob at *
  go_enter Tryd.func7, Tryd.ntmps7
  go_wp2_with (first
    | (go_at_call 22; refine HL.out.mono ?_; rintro e w1 ⟨rfl, hx⟩)
    | (go_at_call 28; ((with_reducible refine (H_alnum.out _).mono ?_); rintro e w2 ⟨rfl, hx2⟩; replace hx := hx.trans hx2; clear hx2))
    | (go_at_call 28; ((with_reducible refine (H_alpha.out _).mono ?_); rintro e w2 ⟨rfl, hx2⟩; replace hx := hx.trans hx2; clear hx2))
    | (go_at_call 28; ((with_reducible refine (H_blank.out _).mono ?_); rintro e w2 ⟨rfl, hx2⟩; replace hx := hx.trans hx2; clear hx2))
    | (go_at_call 28; ((with_reducible refine (H_cntrl.out _).mono ?_); rintro e w2 ⟨rfl, hx2⟩; replace hx := hx.trans hx2; clear hx2))
    | (go_at_call 28; ((with_reducible refine (H_digit.out _).mono ?_); rintro e w2 ⟨rfl, hx2⟩; replace hx := hx.trans hx2; clear hx2))
    | (go_at_call 28; ((with_reducible refine (H_graph.out _).mono ?_); rintro e w2 ⟨rfl, hx2⟩; replace hx := hx.trans hx2; clear hx2))
    | (go_at_call 28; ((with_reducible refine (H_lower.out _).mono ?_); rintro e w2 ⟨rfl, hx2⟩; replace hx := hx.trans hx2; clear hx2))
    | (go_at_call 28; ((with_reducible refine (H_print.out _).mono ?_); rintro e w2 ⟨rfl, hx2⟩; replace hx := hx.trans hx2; clear hx2))
    | (go_at_call 28; ((with_reducible refine (H_punct.out _).mono ?_); rintro e w2 ⟨rfl, hx2⟩; replace hx := hx.trans hx2; clear hx2))
    | (go_at_call 28; ((with_reducible refine (H_space.out _).mono ?_); rintro e w2 ⟨rfl, hx2⟩; replace hx := hx.trans hx2; clear hx2))
    | (go_at_call 28; ((with_reducible refine (H_upper.out _).mono ?_); rintro e w2 ⟨rfl, hx2⟩; replace hx := hx.trans hx2; clear hx2))
    | (go_at_call 28; ((with_reducible refine (H_xdigit.out _).mono ?_); rintro e w2 ⟨rfl, hx2⟩; replace hx := hx.trans hx2; clear hx2))
    | (go_at_call 29; ((with_reducible refine (HO.out _).mono ?_); rintro e w2 ⟨rfl, rfl⟩))
    | (go_at_call 30; ((with_reducible refine (HW.out _).mono ?_); rintro e w2 ⟨rfl, rfl⟩)))
  go_ret
  exact ⟨rfl, hx⟩

set_option maxRecDepth 100000 in
set_option maxHeartbeats 8000000 in
theorem parts_8 (b : Nat) (A : Nat → Addr) (w : World) (hb : b < 256) (hA : ErrsAt w A) (hk : kindB b = [true, true, false, false, false, true, false, true, false, false, true, false, false, true, false]) :
    Calls Tryd.prog 7 #[.int .u8 (b : Int)] w fun r w' => r = .returned (.bool true) ∧ Ext w w' := by
  unfold kindB at hk
  simp only [List.cons.injEq, and_true] at hk
  obtain ⟨h_alnum, h_alpha, h_blank, h_cntrl, h_digit, h_graph, h_lower, h_print, h_punct, h_space, h_upper, h_xdigit, g32, g128, g95⟩ := hk
  have H_alnum := Lib.hid (fun W => has_alnum b W hb)
  rw [h_alnum] at H_alnum
  have H_alpha := Lib.hid (fun W => has_alpha b W hb)
  rw [h_alpha] at H_alpha
  have H_blank := Lib.hid (fun W => has_blank b W hb)
  rw [h_blank] at H_blank
  have H_cntrl := Lib.hid (fun W => has_cntrl b W hb)
  rw [h_cntrl] at H_cntrl
  have H_digit := Lib.hid (fun W => has_digit b W hb)
  rw [h_digit] at H_digit
  have H_graph := Lib.hid (fun W => has_graph b W hb)
  rw [h_graph] at H_graph
  have H_lower := Lib.hid (fun W => has_lower b W hb)
  rw [h_lower] at H_lower
  have H_print := Lib.hid (fun W => has_print b W hb)
  rw [h_print] at H_print
  have H_punct := Lib.hid (fun W => has_punct b W hb)
  rw [h_punct] at H_punct
  have H_space := Lib.hid (fun W => has_space b W hb)
  rw [h_space] at H_space
  have H_upper := Lib.hid (fun W => has_upper b W hb)
  rw [h_upper] at H_upper
  have H_xdigit := Lib.hid (fun W => has_xdigit b W hb)
  rw [h_xdigit] at H_xdigit
  have HL := Lib.hid (classLives_any A w hA)
  have HO := Lib.hid (fun W => other_any b W hb)
  have hw : wordB b = true := by unfold wordB; rw [g95, h_alnum]; rfl
  have HW := Lib.hid (fun W => word_any b W hb)
  rw [hw] at HW
  have ho := other_moves ⟨b, hb⟩
  simp only at ho
  rw [h_alpha] at ho
  have e32 : ((b : Int) == 32) = false := by rw [← g32, Bool.eq_iff_iff, beq_iff_eq, beq_iff_eq]; omega
  have e95 : ((b : Int) == 95) = false := by rw [← g95, Bool.eq_iff_iff, beq_iff_eq, beq_iff_eq]; omega
  have l128 : decide ((b : Int) < 128) = true := by rw [← g128, decide_eq_decide]; omega
  have eo : ((otherB b : Int) != (b : Int)) = true := by
    have : ((otherB b : Int) == (b : Int)) = (otherB b == b) := by rw [Bool.eq_iff_iff, beq_iff_eq, beq_iff_eq]; omega
    rw [bne, this, ho]; rfl
  clear h_alnum h_alpha h_blank h_cntrl h_digit h_graph h_lower h_print h_punct h_space h_upper h_xdigit g32 g128 g95 hw ho hA
  generalize otherB b = ob at *
  go_enter Tryd.func7, Tryd.ntmps7
  go_wp2_with (first
    | (go_at_call 22; refine HL.out.mono ?_; rintro e w1 ⟨rfl, hx⟩)
    | (go_at_call 28; ((with_reducible refine (H_alnum.out _).mono ?_); rintro e w2 ⟨rfl, hx2⟩; replace hx := hx.trans hx2; clear hx2))
    | (go_at_call 28; ((with_reducible refine (H_alpha.out _).mono ?_); rintro e w2 ⟨rfl, hx2⟩; replace hx := hx.trans hx2; clear hx2))
    | (go_at_call 28; ((with_reducible refine (H_blank.out _).mono ?_); rintro e w2 ⟨rfl, hx2⟩; replace hx := hx.trans hx2; clear hx2))
    | (go_at_call 28; ((with_reducible refine (H_cntrl.out _).mono ?_); rintro e w2 ⟨rfl, hx2⟩; replace hx := hx.trans hx2; clear hx2))
    | (go_at_call 28; ((with_reducible refine (H_digit.out _).mono ?_); rintro e w2 ⟨rfl, hx2⟩; replace hx := hx.trans hx2; clear hx2))
    | (go_at_call 28; ((with_reducible refine (H_graph.out _).mono ?_); rintro e w2 ⟨rfl, hx2⟩; replace hx := hx.trans hx2; clear hx2))
    | (go_at_call 28; ((with_reducible refine (H_lower.out _).mono ?_); rintro e w2 ⟨rfl, hx2⟩; replace hx := hx.trans hx2; clear hx2))
    | (go_at_call 28; ((with_reducible refine (H_print.out _).mono ?_); rintro e w2 ⟨rfl, hx2⟩; replace hx := hx.trans hx2; clear hx2))
    | (go_at_call 28; ((with_reducible refine (H_punct.out _).mono ?_); rintro e w2 ⟨rfl, hx2⟩; replace hx := hx.trans hx2; clear hx2))
    | (go_at_call 28; ((with_reducible refine (H_space.out _).mono ?_); rintro e w2 ⟨rfl, hx2⟩; replace hx := hx.trans hx2; clear hx2))
    | (go_at_call 28; ((with_reducible refine (H_upper.out _).mono ?_); rintro e w2 ⟨rfl, hx2⟩; replace hx := hx.trans hx2; clear hx2))
    | (go_at_call 28; ((with_reducible refine (H_xdigit.out _).mono ?_); rintro e w2 ⟨rfl, hx2⟩; replace hx := hx.trans hx2; clear hx2))
    | (go_at_call 29; ((with_reducible refine (HO.out _).mono ?_); rintro e w2 ⟨rfl, rfl⟩))
    | (go_at_call 30; ((with_reducible refine (HW.out _).mono ?_); rintro e w2 ⟨rfl, rfl⟩)))
  go_ret
  exact ⟨rfl, hx⟩

set_option maxRecDepth 100000 in
set_option maxHeartbeats 8000000 in
theorem parts_9 (b : Nat) (A : Nat → Addr) (w : World) (hb : b < 256) (hA : ErrsAt w A) (hk : kindB b = [true, true, false, false, false, true, false, true, false, false, true, true, false, true, false]) :
    Calls Tryd.prog 7 #[.int .u8 (b : Int)] w fun r w' => r = .returned (.bool true) ∧ Ext w w' := by
  unfold kindB at hk
  simp only [List.cons.injEq, and_true] at hk
  obtain ⟨h_alnum, h_alpha, h_blank, h_cntrl, h_digit, h_graph, h_lower, h_print, h_punct, h_space, h_upper, h_xdigit, g32, g128, g95⟩ := hk
  have H_alnum := Lib.hid (fun W => has_alnum b W hb)
  rw [h_alnum] at H_alnum
  have H_alpha := Lib.hid (fun W => has_alpha b W hb)
  rw [h_alpha] at H_alpha
  have H_blank := Lib.hid (fun W => has_blank b W hb)
  rw [h_blank] at H_blank
  have H_cntrl := Lib.hid (fun W => has_cntrl b W hb)
  rw [h_cntrl] at H_cntrl
  have H_digit := Lib.hid (fun W => has_digit b W hb)
  rw [h_digit] at H_digit
  have H_graph := Lib.hid (fun W => has_graph b W hb)
  rw [h_graph] at H_graph
  have H_lower := Lib.hid (fun W => has_lower b W hb)
  rw [h_lower] at H_lower
  have H_print := Lib.hid (fun W => has_print b W hb)
  rw [h_print] at H_print
  have H_punct := Lib.hid (fun W => has_punct b W hb)
  rw [h_punct] at H_punct
  have H_space := Lib.hid (fun W => has_space b W hb)
  rw [h_space] at H_space
  have H_upper := Lib.hid (fun W => has_upper b W hb)
  rw [h_upper] at H_upper
  have H_xdigit := Lib.hid (fun W => has_xdigit b W hb)
  rw [h_xdigit] at H_xdigit
  have HL := Lib.hid (classLives_any A w hA)
  have HO := Lib.hid (fun W => other_any b W hb)
  have hw : wordB b = true := by unfold wordB; rw [g95, h_alnum]; rfl
  have HW := Lib.hid (fun W => word_any b W hb)
  rw [hw] at HW
  have ho := other_moves ⟨b, hb⟩
  simp only at ho
  rw [h_alpha] at ho
  have e32 : ((b : Int) == 32) = false := by rw [← g32, Bool.eq_iff_iff, beq_iff_eq, beq_iff_eq]; omega
  have e95 : ((b : Int) == 95) = false := by rw [← g95, Bool.eq_iff_iff, beq_iff_eq, beq_iff_eq]; omega
  have l128 : decide ((b : Int) < 128) = true := by rw [← g128, decide_eq_decide]; omega
  have eo : ((otherB b : Int) != (b : Int)) = true := by
    have : ((otherB b : Int) == (b : Int)) = (otherB b == b) := by rw [Bool.eq_iff_iff, beq_iff_eq, beq_iff_eq]; omega
    rw [bne, this, ho]; rfl
  clear h_alnum h_alpha h_blank h_cntrl h_digit h_graph h_lower h_print h_punct h_space h_upper h_xdigit g32 g128 g95 hw ho hA
  generalize otherB b = ob at *
  go_enter Tryd.func7, Tryd.ntmps7
  go_wp2_with (first
    | (go_at_call 22; refine HL.out.mono ?_; rintro e w1 ⟨rfl, hx⟩)
    | (go_at_call 28; ((with_reducible refine (H_alnum.out _).mono ?_); rintro e w2 ⟨rfl, hx2⟩; replace hx := hx.trans hx2; clear hx2))
    | (go_at_call 28; ((with_reducible refine (H_alpha.out _).mono ?_); rintro e w2 ⟨rfl, hx2⟩; replace hx := hx.trans hx2; clear hx2))
    | (go_at_call 28; ((with_reducible refine (H_blank.out _).mono ?_); rintro e w2 ⟨rfl, hx2⟩; replace hx := hx.trans hx2; clear hx2))
    | (go_at_call 28; ((with_reducible refine (H_cntrl.out _).mono ?_); rintro e w2 ⟨rfl, hx2⟩; replace hx := hx.trans hx2; clear hx2))
    | (go_at_call 28; ((with_reducible refine (H_digit.out _).mono ?_); rintro e w2 ⟨rfl, hx2⟩; replace hx := hx.trans hx2; clear hx2))
    | (go_at_call 28; ((with_reducible refine (H_graph.out _).mono ?_); rintro e w2 ⟨rfl, hx2⟩; replace hx := hx.trans hx2; clear hx2))
    | (go_at_call 28; ((with_reducible refine (H_lower.out _).mono ?_); rintro e w2 ⟨rfl, hx2⟩; replace hx := hx.trans hx2; clear hx2))
    | (go_at_call 28; ((with_reducible refine (H_print.out _).mono ?_); rintro e w2 ⟨rfl, hx2⟩; replace hx := hx.trans hx2; clear hx2))
    | (go_at_call 28; ((with_reducible refine (H_punct.out _).mono ?_); rintro e w2 ⟨rfl, hx2⟩; replace hx := hx.trans hx2; clear hx2))
    | (go_at_call 28; ((with_reducible refine (H_space.out _).mono ?_); rintro e w2 ⟨rfl, hx2⟩; replace hx := hx.trans hx2; clear hx2))
    | (go_at_call 28; ((with_reducible refine (H_upper.out _).mono ?_); rintro e w2 ⟨rfl, hx2⟩; replace hx := hx.trans hx2; clear hx2))
    | (go_at_call 28; ((with_reducible refine (H_xdigit.out _).mono ?_); rintro e w2 ⟨rfl, hx2⟩; replace hx := hx.trans hx2; clear hx2))
    | (go_at_call 29; ((with_reducible refine (HO.out _).mono ?_); rintro e w2 ⟨rfl, rfl⟩))
    | (go_at_call 30; ((with_reducible refine (HW.out _).mono ?_); rintro e w2 ⟨rfl, rfl⟩)))
  go_ret
  exact ⟨rfl, hx⟩

set_option maxRecDepth 100000 in
set_option maxHeartbeats 8000000 in
theorem parts_10 (b : Nat) (A : Nat → Addr) (w : World) (hb : b < 256) (hA : ErrsAt w A) (hk : kindB b = [true, true, false, false, false, true, true, true, false, false, false, false, false, true, false]) :
    Calls Tryd.prog 7 #[.int .u8 (b : Int)] w fun r w' => r = .returned (.bool true) ∧ Ext w w' := by
  unfold kindB at hk
  simp only [List.cons.injEq, and_true] at hk
  obtain ⟨h_alnum, h_alpha, h_blank, h_cntrl, h_digit, h_graph, h_lower, h_print, h_punct, h_space, h_upper, h_xdigit, g32, g128, g95⟩ := hk
  have H_alnum := Lib.hid (fun W => has_alnum b W hb)
  rw [h_alnum] at H_alnum
  have H_alpha := Lib.hid (fun W => has_alpha b W hb)
  rw [h_alpha] at H_alpha
  have H_blank := Lib.hid (fun W => has_blank b W hb)
  rw [h_blank] at H_blank
  have H_cntrl := Lib.hid (fun W => has_cntrl b W hb)
  rw [h_cntrl] at H_cntrl
  have H_digit := Lib.hid (fun W => has_digit b W hb)
  rw [h_digit] at H_digit
  have H_graph := Lib.hid (fun W => has_graph b W hb)
  rw [h_graph] at H_graph
  have H_lower := Lib.hid (fun W => has_lower b W hb)
  rw [h_lower] at H_lower
  have H_print := Lib.hid (fun W => has_print b W hb)
  rw [h_print] at H_print
  have H_punct := Lib.hid (fun W => has_punct b W hb)
  rw [h_punct] at H_punct
  have H_space := Lib.hid (fun W => has_space b W hb)
  rw [h_space] at H_space
  have H_upper := Lib.hid (fun W => has_upper b W hb)
  rw [h_upper] at H_upper
  have H_xdigit := Lib.hid (fun W => has_xdigit b W hb)
  rw [h_xdigit] at H_xdigit
  have HL := Lib.hid (classLives_any A w hA)
  have HO := Lib.hid (fun W => other_any b W hb)
  have hw : wordB b = true := by unfold wordB; rw [g95, h_alnum]; rfl
  have HW := Lib.hid (fun W => word_any b W hb)
  rw [hw] at HW
  have ho := other_moves ⟨b, hb⟩
  simp only at ho
  rw [h_alpha] at ho
  have e32 : ((b : Int) == 32) = false := by rw [← g32, Bool.eq_iff_iff, beq_iff_eq, beq_iff_eq]; omega
  have e95 : ((b : Int) == 95) = false := by rw [← g95, Bool.eq_iff_iff, beq_iff_eq, beq_iff_eq]; omega
  have l128 : decide ((b : Int) < 128) = true := by rw [← g128, decide_eq_decide]; omega
  have eo : ((otherB b : Int) != (b : Int)) = true := by
    have : ((otherB b : Int) == (b : Int)) = (otherB b == b) := by rw [Bool.eq_iff_iff, beq_iff_eq, beq_iff_eq]; omega
    rw [bne, this, ho]; rfl
  clear h_alnum h_alpha h_blank h_cntrl h_digit h_graph h_lower h_print h_punct h_space h_upper h_xdigit g32 g128 g95 hw ho hA
  generalize otherB b = ob at *
  go_enter Tryd.func7, Tryd.ntmps7
  go_wp2_with (first
    | (go_at_call 22; refine HL.out.mono ?_; rintro e w1 ⟨rfl, hx⟩)
    | (go_at_call 28; ((with_reducible refine (H_alnum.out _).mono ?_); rintro e w2 ⟨rfl, hx2⟩; replace hx := hx.trans hx2; clear hx2))
    | (go_at_call 28; ((with_reducible refine (H_alpha.out _).mono ?_); rintro e w2 ⟨rfl, hx2⟩; replace hx := hx.trans hx2; clear hx2))
    | (go_at_call 28; ((with_reducible refine (H_blank.out _).mono ?_); rintro e w2 ⟨rfl, hx2⟩; replace hx := hx.trans hx2; clear hx2))
    | (go_at_call 28; ((with_reducible refine (H_cntrl.out _).mono ?_); rintro e w2 ⟨rfl, hx2⟩; replace hx := hx.trans hx2; clear hx2))
    | (go_at_call 28; ((with_reducible refine (H_digit.out _).mono ?_); rintro e w2 ⟨rfl, hx2⟩; replace hx := hx.trans hx2; clear hx2))
    | (go_at_call 28; ((with_reducible refine (H_graph.out _).mono ?_); rintro e w2 ⟨rfl, hx2⟩; replace hx := hx.trans hx2; clear hx2))
    | (go_at_call 28; ((with_reducible refine (H_lower.out _).mono ?_); rintro e w2 ⟨rfl, hx2⟩; replace hx := hx.trans hx2; clear hx2))
    | (go_at_call 28; ((with_reducible refine (H_print.out _).mono ?_); rintro e w2 ⟨rfl, hx2⟩; replace hx := hx.trans hx2; clear hx2))
    | (go_at_call 28; ((with_reducible refine (H_punct.out _).mono ?_); rintro e w2 ⟨rfl, hx2⟩; replace hx := hx.trans hx2; clear hx2))
    | (go_at_call 28; ((with_reducible refine (H_space.out _).mono ?_); rintro e w2 ⟨rfl, hx2⟩; replace hx := hx.trans hx2; clear hx2))
    | (go_at_call 28; ((with_reducible refine (H_upper.out _).mono ?_); rintro e w2 ⟨rfl, hx2⟩; replace hx := hx.trans hx2; clear hx2))
    | (go_at_call 28; ((with_reducible refine (H_xdigit.out _).mono ?_); rintro e w2 ⟨rfl, hx2⟩; replace hx := hx.trans hx2; clear hx2))
    | (go_at_call 29; ((with_reducible refine (HO.out _).mono ?_); rintro e w2 ⟨rfl, rfl⟩))
    | (go_at_call 30; ((with_reducible refine (HW.out _).mono ?_); rintro e w2 ⟨rfl, rfl⟩)))
  go_ret
  exact ⟨rfl, hx⟩

set_option maxRecDepth 100000 in
set_option maxHeartbeats 8000000 in
theorem parts_11 (b : Nat) (A : Nat → Addr) (w : World) (hb : b < 256) (hA : ErrsAt w A) (hk : kindB b = [true, true, false, false, false, true, true, true, false, false, false, true, false, true, false]) :
    Calls Tryd.prog 7 #[.int .u8 (b : Int)] w fun r w' => r = .returned (.bool true) ∧ Ext w w' := by
  unfold kindB at hk
  simp only [List.cons.injEq, and_true] at hk
  obtain ⟨h_alnum, h_alpha, h_blank, h_cntrl, h_digit, h_graph, h_lower, h_print, h_punct, h_space, h_upper, h_xdigit, g32, g128, g95⟩ := hk
  have H_alnum := Lib.hid (fun W => has_alnum b W hb)
  rw [h_alnum] at H_alnum
  have H_alpha := Lib.hid (fun W => has_alpha b W hb)
  rw [h_alpha] at H_alpha
  have H_blank := Lib.hid (fun W => has_blank b W hb)
  rw [h_blank] at H_blank
  have H_cntrl := Lib.hid (fun W => has_cntrl b W hb)
  rw [h_cntrl] at H_cntrl
  have H_digit := Lib.hid (fun W => has_digit b W hb)
  rw [h_digit] at H_digit
  have H_graph := Lib.hid (fun W => has_graph b W hb)
  rw [h_graph] at H_graph
  have H_lower := Lib.hid (fun W => has_lower b W hb)
  rw [h_lower] at H_lower
  have H_print := Lib.hid (fun W => has_print b W hb)
  rw [h_print] at H_print
  have H_punct := Lib.hid (fun W => has_punct b W hb)
  rw [h_punct] at H_punct
  have H_space := Lib.hid (fun W => has_space b W hb)
  rw [h_space] at H_space
  have H_upper := Lib.hid (fun W => has_upper b W hb)
  rw [h_upper] at H_upper
  have H_xdigit := Lib.hid (fun W => has_xdigit b W hb)
  rw [h_xdigit] at H_xdigit
  have HL := Lib.hid (classLives_any A w hA)
  have HO := Lib.hid (fun W => other_any b W hb)
  have hw : wordB b = true := by unfold wordB; rw [g95, h_alnum]; rfl
  have HW := Lib.hid (fun W => word_any b W hb)
  rw [hw] at HW
  have ho := other_moves ⟨b, hb⟩
  simp only at ho
  rw [h_alpha] at ho
  have e32 : ((b : Int) == 32) = false := by rw [← g32, Bool.eq_iff_iff, beq_iff_eq, beq_iff_eq]; omega
  have e95 : ((b : Int) == 95) = false := by rw [← g95, Bool.eq_iff_iff, beq_iff_eq, beq_iff_eq]; omega
  have l128 : decide ((b : Int) < 128) = true := by rw [← g128, decide_eq_decide]; omega
  have eo : ((otherB b : Int) != (b : Int)) = true := by
    have : ((otherB b : Int) == (b : Int)) = (otherB b == b) := by rw [Bool.eq_iff_iff, beq_iff_eq, beq_iff_eq]; omega
    rw [bne, this, ho]; rfl
  clear h_alnum h_alpha h_blank h_cntrl h_digit h_graph h_lower h_print h_punct h_space h_upper h_xdigit g32 g128 g95 hw ho hA
  generalize otherB b = ob at *
  go_enter Tryd.func7, Tryd.ntmps7
  go_wp2_with (first
    | (go_at_call 22; refine HL.out.mono ?_; rintro e w1 ⟨rfl, hx⟩)
    | (go_at_call 28; ((with_reducible refine (H_alnum.out _).mono ?_); rintro e w2 ⟨rfl, hx2⟩; replace hx := hx.trans hx2; clear hx2))
    | (go_at_call 28; ((with_reducible refine (H_alpha.out _).mono ?_); rintro e w2 ⟨rfl, hx2⟩; replace hx := hx.trans hx2; clear hx2))
    | (go_at_call 28; ((with_reducible refine (H_blank.out _).mono ?_); rintro e w2 ⟨rfl, hx2⟩; replace hx := hx.trans hx2; clear hx2))
    | (go_at_call 28; ((with_reducible refine (H_cntrl.out _).mono ?_); rintro e w2 ⟨rfl, hx2⟩; replace hx := hx.trans hx2; clear hx2))
    | (go_at_call 28; ((with_reducible refine (H_digit.out _).mono ?_); rintro e w2 ⟨rfl, hx2⟩; replace hx := hx.trans hx2; clear hx2))
    | (go_at_call 28; ((with_reducible refine (H_graph.out _).mono ?_); rintro e w2 ⟨rfl, hx2⟩; replace hx := hx.trans hx2; clear hx2))
    | (go_at_call 28; ((with_reducible refine (H_lower.out _).mono ?_); rintro e w2 ⟨rfl, hx2⟩; replace hx := hx.trans hx2; clear hx2))
    | (go_at_call 28; ((with_reducible refine (H_print.out _).mono ?_); rintro e w2 ⟨rfl, hx2⟩; replace hx := hx.trans hx2; clear hx2))
    | (go_at_call 28; ((with_reducible refine (H_punct.out _).mono ?_); rintro e w2 ⟨rfl, hx2⟩; replace hx := hx.trans hx2; clear hx2))
    | (go_at_call 28; ((with_reducible refine (H_space.out _).mono ?_); rintro e w2 ⟨rfl, hx2⟩; replace hx := hx.trans hx2; clear hx2))
    | (go_at_call 28; ((with_reducible refine (H_upper.out _).mono ?_); rintro e w2 ⟨rfl, hx2⟩; replace hx := hx.trans hx2; clear hx2))
    | (go_at_call 28; ((with_reducible refine (H_xdigit.out _).mono ?_); rintro e w2 ⟨rfl, hx2⟩; replace hx := hx.trans hx2; clear hx2))
    | (go_at_call 29; ((with_reducible refine (HO.out _).mono ?_); rintro e w2 ⟨rfl, rfl⟩))
    | (go_at_call 30; ((with_reducible refine (HW.out _).mono ?_); rintro e w2 ⟨rfl, rfl⟩)))
  go_ret
  exact ⟨rfl, hx⟩

theorem kinds : ∀ x : Fin 256, kindB x.val = [false, false, false, false, false, false, false, false, false, false, false, false, false, false, false] ∨ kindB x.val = [false, false, false, false, false, true, false, true, true, false, false, false, false, true, false] ∨ kindB x.val = [false, false, false, false, false, true, false, true, true, false, false, false, false, true, true] ∨ kindB x.val = [false, false, false, true, false, false, false, false, false, false, false, false, false, true, false] ∨ kindB x.val = [false, false, false, true, false, false, false, false, false, true, false, false, false, true, false] ∨ kindB x.val = [false, false, true, false, false, false, false, true, false, true, false, false, true, true, false] ∨ kindB x.val = [false, false, true, true, false, false, false, false, false, true, false, false, false, true, false] ∨ kindB x.val = [true, false, false, false, true, true, false, true, false, false, false, true, false, true, false] ∨ kindB x.val = [true, true, false, false, false, true, false, true, false, false, true, false, false, true, false] ∨ kindB x.val = [true, true, false, false, false, true, false, true, false, false, true, true, false, true, false] ∨ kindB x.val = [true, true, false, false, false, true, true, true, false, false, false, false, false, true, false] ∨ kindB x.val = [true, true, false, false, false, true, true, true, false, false, false, true, false, true, false] := by decide +kernel
theorem classParts_walk (b : Int) (wb : (Lit.int .u8 b).wf = true) (w : World) (hE : ∃ A, ErrsAt w A) :
    Calls Tryd.prog 7 #[.int .u8 b] w fun r w' => r = .returned (.bool true) ∧ Ext w w' := by
  obtain ⟨A, hA⟩ := hE
  obtain ⟨h0, h1⟩ : 0 ≤ b ∧ b ≤ 255 := by simpa [Lit.wf, IntKind.min, IntKind.max, IntKind.signed, IntKind.bits] using wb
  obtain ⟨n, rfl⟩ := Int.eq_ofNat_of_zero_le h0
  have hn : n < 256 := by omega
  rcases kinds ⟨n, hn⟩ with h | h | h | h | h | h | h | h | h | h | h | h
  · exact parts_0 n A w hn hA h
  · exact parts_1 n A w hn hA h
  · exact parts_2 n A w hn hA h
  · exact parts_3 n A w hn hA h
  · exact parts_4 n A w hn hA h
  · exact parts_5 n A w hn hA h
  · exact parts_6 n A w hn hA h
  · exact parts_7 n A w hn hA h
  · exact parts_8 n A w hn hA h
  · exact parts_9 n A w hn hA h
  · exact parts_10 n A w hn hA h
  · exact parts_11 n A w hn hA h

end Go.Proofs.YteahmkhmkalimaaDoor
