/- The classes: Named of each name, the statements' own small functions as contracts. No condition but where the error values lie. -/
import Derived.Test.YteahmkhmkalimaaDoorNamedB
import Derived.Test.YteahmkhmkalimaaDoorNamedC
import Derived.Test.YteahmkhmkalimaaDoorNamedD
import Derived.Test.YteahmkhmkalimaaDoorNamedE
import Derived.Test.YteahmkhmkalimaaDoorNamedF
import Derived.Test.YteahmkhmkalimaaDoorNamedG
import Derived.Test.YteahmkhmkalimaaDoorSetEq
import Derived.Test.YteahmkhmkalimaaDoorRefD
import Derived.Test.YteahmkhmkalimaaDoorFoldP
namespace Go.Proofs.YteahmkhmkalimaaDoor
open Go.RowKit

theorem namedA_alnum (w : World) : Calls Tryd.prog 23 #[.string ⟨#[97, 108, 110, 117, 109]⟩] w fun r w' => r = .returned (.tuple #[.agg #[.int .u64 (wd (alnumB) 0 : Int), .int .u64 (wd (alnumB) 1 : Int), .int .u64 (wd (alnumB) 2 : Int), .int .u64 (wd (alnumB) 3 : Int)], .nilIface]) ∧ Ext w w' := named_alnum w
theorem rNamedA_alnum (w : World) : Calls Tryd.prog 24 #[.string ⟨#[97, 108, 110, 117, 109]⟩] w fun r w' => r = .returned (.tuple #[.agg #[.int .u64 (wd (alnumB) 0 : Int), .int .u64 (wd (alnumB) 1 : Int), .int .u64 (wd (alnumB) 2 : Int), .int .u64 (wd (alnumB) 3 : Int)], .bool true]) ∧ Ext w w' := by
  have h := rNamed_core ⟨#[97, 108, 110, 117, 109]⟩ alnumB w (fun b W => member_alnum b W)
  rw [anyB_true (show 48 < 256 by omega) (by decide)] at h
  exact h
theorem namedA_alpha (w : World) : Calls Tryd.prog 23 #[.string ⟨#[97, 108, 112, 104, 97]⟩] w fun r w' => r = .returned (.tuple #[.agg #[.int .u64 (wd (alphaB) 0 : Int), .int .u64 (wd (alphaB) 1 : Int), .int .u64 (wd (alphaB) 2 : Int), .int .u64 (wd (alphaB) 3 : Int)], .nilIface]) ∧ Ext w w' := named_alpha w
theorem rNamedA_alpha (w : World) : Calls Tryd.prog 24 #[.string ⟨#[97, 108, 112, 104, 97]⟩] w fun r w' => r = .returned (.tuple #[.agg #[.int .u64 (wd (alphaB) 0 : Int), .int .u64 (wd (alphaB) 1 : Int), .int .u64 (wd (alphaB) 2 : Int), .int .u64 (wd (alphaB) 3 : Int)], .bool true]) ∧ Ext w w' := by
  have h := rNamed_core ⟨#[97, 108, 112, 104, 97]⟩ alphaB w (fun b W => member_alpha b W)
  rw [anyB_true (show 65 < 256 by omega) (by decide)] at h
  exact h
theorem namedA_blank (w : World) : Calls Tryd.prog 23 #[.string ⟨#[98, 108, 97, 110, 107]⟩] w fun r w' => r = .returned (.tuple #[.agg #[.int .u64 (wd (blankB) 0 : Int), .int .u64 (wd (blankB) 1 : Int), .int .u64 (wd (blankB) 2 : Int), .int .u64 (wd (blankB) 3 : Int)], .nilIface]) ∧ Ext w w' := named_blank w
theorem rNamedA_blank (w : World) : Calls Tryd.prog 24 #[.string ⟨#[98, 108, 97, 110, 107]⟩] w fun r w' => r = .returned (.tuple #[.agg #[.int .u64 (wd (blankB) 0 : Int), .int .u64 (wd (blankB) 1 : Int), .int .u64 (wd (blankB) 2 : Int), .int .u64 (wd (blankB) 3 : Int)], .bool true]) ∧ Ext w w' := by
  have h := rNamed_core ⟨#[98, 108, 97, 110, 107]⟩ blankB w (fun b W => member_blank b W)
  rw [anyB_true (show 9 < 256 by omega) (by decide)] at h
  exact h
theorem namedA_cntrl (w : World) : Calls Tryd.prog 23 #[.string ⟨#[99, 110, 116, 114, 108]⟩] w fun r w' => r = .returned (.tuple #[.agg #[.int .u64 (wd (cntrlB) 0 : Int), .int .u64 (wd (cntrlB) 1 : Int), .int .u64 (wd (cntrlB) 2 : Int), .int .u64 (wd (cntrlB) 3 : Int)], .nilIface]) ∧ Ext w w' := named_cntrl w
theorem rNamedA_cntrl (w : World) : Calls Tryd.prog 24 #[.string ⟨#[99, 110, 116, 114, 108]⟩] w fun r w' => r = .returned (.tuple #[.agg #[.int .u64 (wd (cntrlB) 0 : Int), .int .u64 (wd (cntrlB) 1 : Int), .int .u64 (wd (cntrlB) 2 : Int), .int .u64 (wd (cntrlB) 3 : Int)], .bool true]) ∧ Ext w w' := by
  have h := rNamed_core ⟨#[99, 110, 116, 114, 108]⟩ cntrlB w (fun b W => member_cntrl b W)
  rw [anyB_true (show 0 < 256 by omega) (by decide)] at h
  exact h
theorem namedA_digit (w : World) : Calls Tryd.prog 23 #[.string ⟨#[100, 105, 103, 105, 116]⟩] w fun r w' => r = .returned (.tuple #[.agg #[.int .u64 (wd (digitB) 0 : Int), .int .u64 (wd (digitB) 1 : Int), .int .u64 (wd (digitB) 2 : Int), .int .u64 (wd (digitB) 3 : Int)], .nilIface]) ∧ Ext w w' := named_digit w
theorem rNamedA_digit (w : World) : Calls Tryd.prog 24 #[.string ⟨#[100, 105, 103, 105, 116]⟩] w fun r w' => r = .returned (.tuple #[.agg #[.int .u64 (wd (digitB) 0 : Int), .int .u64 (wd (digitB) 1 : Int), .int .u64 (wd (digitB) 2 : Int), .int .u64 (wd (digitB) 3 : Int)], .bool true]) ∧ Ext w w' := by
  have h := rNamed_core ⟨#[100, 105, 103, 105, 116]⟩ digitB w (fun b W => member_digit b W)
  rw [anyB_true (show 48 < 256 by omega) (by decide)] at h
  exact h
theorem namedA_graph (w : World) : Calls Tryd.prog 23 #[.string ⟨#[103, 114, 97, 112, 104]⟩] w fun r w' => r = .returned (.tuple #[.agg #[.int .u64 (wd (graphB) 0 : Int), .int .u64 (wd (graphB) 1 : Int), .int .u64 (wd (graphB) 2 : Int), .int .u64 (wd (graphB) 3 : Int)], .nilIface]) ∧ Ext w w' := named_graph w
theorem rNamedA_graph (w : World) : Calls Tryd.prog 24 #[.string ⟨#[103, 114, 97, 112, 104]⟩] w fun r w' => r = .returned (.tuple #[.agg #[.int .u64 (wd (graphB) 0 : Int), .int .u64 (wd (graphB) 1 : Int), .int .u64 (wd (graphB) 2 : Int), .int .u64 (wd (graphB) 3 : Int)], .bool true]) ∧ Ext w w' := by
  have h := rNamed_core ⟨#[103, 114, 97, 112, 104]⟩ graphB w (fun b W => member_graph b W)
  rw [anyB_true (show 33 < 256 by omega) (by decide)] at h
  exact h
theorem namedA_lower (w : World) : Calls Tryd.prog 23 #[.string ⟨#[108, 111, 119, 101, 114]⟩] w fun r w' => r = .returned (.tuple #[.agg #[.int .u64 (wd (lowerB) 0 : Int), .int .u64 (wd (lowerB) 1 : Int), .int .u64 (wd (lowerB) 2 : Int), .int .u64 (wd (lowerB) 3 : Int)], .nilIface]) ∧ Ext w w' := named_lower w
theorem rNamedA_lower (w : World) : Calls Tryd.prog 24 #[.string ⟨#[108, 111, 119, 101, 114]⟩] w fun r w' => r = .returned (.tuple #[.agg #[.int .u64 (wd (lowerB) 0 : Int), .int .u64 (wd (lowerB) 1 : Int), .int .u64 (wd (lowerB) 2 : Int), .int .u64 (wd (lowerB) 3 : Int)], .bool true]) ∧ Ext w w' := by
  have h := rNamed_core ⟨#[108, 111, 119, 101, 114]⟩ lowerB w (fun b W => member_lower b W)
  rw [anyB_true (show 97 < 256 by omega) (by decide)] at h
  exact h
theorem namedA_print (w : World) : Calls Tryd.prog 23 #[.string ⟨#[112, 114, 105, 110, 116]⟩] w fun r w' => r = .returned (.tuple #[.agg #[.int .u64 (wd (printB) 0 : Int), .int .u64 (wd (printB) 1 : Int), .int .u64 (wd (printB) 2 : Int), .int .u64 (wd (printB) 3 : Int)], .nilIface]) ∧ Ext w w' := named_print w
theorem rNamedA_print (w : World) : Calls Tryd.prog 24 #[.string ⟨#[112, 114, 105, 110, 116]⟩] w fun r w' => r = .returned (.tuple #[.agg #[.int .u64 (wd (printB) 0 : Int), .int .u64 (wd (printB) 1 : Int), .int .u64 (wd (printB) 2 : Int), .int .u64 (wd (printB) 3 : Int)], .bool true]) ∧ Ext w w' := by
  have h := rNamed_core ⟨#[112, 114, 105, 110, 116]⟩ printB w (fun b W => member_print b W)
  rw [anyB_true (show 32 < 256 by omega) (by decide)] at h
  exact h
theorem namedA_punct (w : World) : Calls Tryd.prog 23 #[.string ⟨#[112, 117, 110, 99, 116]⟩] w fun r w' => r = .returned (.tuple #[.agg #[.int .u64 (wd (punctB) 0 : Int), .int .u64 (wd (punctB) 1 : Int), .int .u64 (wd (punctB) 2 : Int), .int .u64 (wd (punctB) 3 : Int)], .nilIface]) ∧ Ext w w' := named_punct w
theorem rNamedA_punct (w : World) : Calls Tryd.prog 24 #[.string ⟨#[112, 117, 110, 99, 116]⟩] w fun r w' => r = .returned (.tuple #[.agg #[.int .u64 (wd (punctB) 0 : Int), .int .u64 (wd (punctB) 1 : Int), .int .u64 (wd (punctB) 2 : Int), .int .u64 (wd (punctB) 3 : Int)], .bool true]) ∧ Ext w w' := by
  have h := rNamed_core ⟨#[112, 117, 110, 99, 116]⟩ punctB w (fun b W => member_punct b W)
  rw [anyB_true (show 33 < 256 by omega) (by decide)] at h
  exact h
theorem namedA_space (w : World) : Calls Tryd.prog 23 #[.string ⟨#[115, 112, 97, 99, 101]⟩] w fun r w' => r = .returned (.tuple #[.agg #[.int .u64 (wd (spaceB) 0 : Int), .int .u64 (wd (spaceB) 1 : Int), .int .u64 (wd (spaceB) 2 : Int), .int .u64 (wd (spaceB) 3 : Int)], .nilIface]) ∧ Ext w w' := named_space w
theorem rNamedA_space (w : World) : Calls Tryd.prog 24 #[.string ⟨#[115, 112, 97, 99, 101]⟩] w fun r w' => r = .returned (.tuple #[.agg #[.int .u64 (wd (spaceB) 0 : Int), .int .u64 (wd (spaceB) 1 : Int), .int .u64 (wd (spaceB) 2 : Int), .int .u64 (wd (spaceB) 3 : Int)], .bool true]) ∧ Ext w w' := by
  have h := rNamed_core ⟨#[115, 112, 97, 99, 101]⟩ spaceB w (fun b W => member_space b W)
  rw [anyB_true (show 9 < 256 by omega) (by decide)] at h
  exact h
theorem namedA_upper (w : World) : Calls Tryd.prog 23 #[.string ⟨#[117, 112, 112, 101, 114]⟩] w fun r w' => r = .returned (.tuple #[.agg #[.int .u64 (wd (upperB) 0 : Int), .int .u64 (wd (upperB) 1 : Int), .int .u64 (wd (upperB) 2 : Int), .int .u64 (wd (upperB) 3 : Int)], .nilIface]) ∧ Ext w w' := named_upper w
theorem rNamedA_upper (w : World) : Calls Tryd.prog 24 #[.string ⟨#[117, 112, 112, 101, 114]⟩] w fun r w' => r = .returned (.tuple #[.agg #[.int .u64 (wd (upperB) 0 : Int), .int .u64 (wd (upperB) 1 : Int), .int .u64 (wd (upperB) 2 : Int), .int .u64 (wd (upperB) 3 : Int)], .bool true]) ∧ Ext w w' := by
  have h := rNamed_core ⟨#[117, 112, 112, 101, 114]⟩ upperB w (fun b W => member_upper b W)
  rw [anyB_true (show 65 < 256 by omega) (by decide)] at h
  exact h
theorem namedA_xdigit (w : World) : Calls Tryd.prog 23 #[.string ⟨#[120, 100, 105, 103, 105, 116]⟩] w fun r w' => r = .returned (.tuple #[.agg #[.int .u64 (wd (xdigitB) 0 : Int), .int .u64 (wd (xdigitB) 1 : Int), .int .u64 (wd (xdigitB) 2 : Int), .int .u64 (wd (xdigitB) 3 : Int)], .nilIface]) ∧ Ext w w' := named_xdigit w
theorem rNamedA_xdigit (w : World) : Calls Tryd.prog 24 #[.string ⟨#[120, 100, 105, 103, 105, 116]⟩] w fun r w' => r = .returned (.tuple #[.agg #[.int .u64 (wd (xdigitB) 0 : Int), .int .u64 (wd (xdigitB) 1 : Int), .int .u64 (wd (xdigitB) 2 : Int), .int .u64 (wd (xdigitB) 3 : Int)], .bool true]) ∧ Ext w w' := by
  have h := rNamed_core ⟨#[120, 100, 105, 103, 105, 116]⟩ xdigitB w (fun b W => member_xdigit b W)
  rw [anyB_true (show 48 < 256 by omega) (by decide)] at h
  exact h
theorem noName_word : NoName ⟨#[119, 111, 114, 100]⟩ := by
  intro c hc
  rcases (show c = 0 ∨ c = 1 ∨ c = 2 ∨ c = 3 ∨ c = 4 ∨ c = 5 ∨ c = 6 ∨ c = 7 ∨ c = 8 ∨ c = 9 ∨ c = 10 ∨ c = 11 from by omega) with rfl | rfl | rfl | rfl | rfl | rfl | rfl | rfl | rfl | rfl | rfl | rfl <;> (intro h; exact absurd (congrArg (fun s : ByteArray => s.data.toList) h) (by decide))
theorem namedA_none (s : ByteArray) (A : Nat → Addr) (w : World) (hn : NoName s) (hA : ErrsAt w A) :
    Calls Tryd.prog 23 #[.string s] w fun r w' => r = .returned (.tuple #[.agg #[.int .u64 (wd (fun _ => false) 0 : Int), .int .u64 (wd (fun _ => false) 1 : Int), .int .u64 (wd (fun _ => false) 2 : Int), .int .u64 (wd (fun _ => false) 3 : Int)], .iface 86 (.pointer (some (A 5)))]) ∧ Ext w w' := named_none s A w hn hA
theorem rRange_d (w : World) :
    Calls Tryd.prog 14 #[.int .u8 48, .int .u8 57] w fun r w' => r = .returned (.agg #[.int .u64 (wd (digitB) 0 : Int), .int .u64 (wd (digitB) 1 : Int), .int .u64 (wd (digitB) 2 : Int), .int .u64 (wd (digitB) 3 : Int)]) ∧ Ext w w' := rRange_any 48 57 w (by omega) (by omega)
theorem num_class (A : Nat → Addr) (w : World) (h : ErrsAt w A) :
    Calls Tryd.prog 25 #[.iface 86 (.pointer (some (A 5)))] w fun r w' => r = .returned (.int .i64 6) ∧ Ext w w' := num_err A 5 w (by omega) h
theorem other_a (w : World) :
    Calls Tryd.prog 29 #[.int .u8 97] w fun r w' => r = .returned (.int .u8 65) ∧ w = w' := other_any 97 w (by omega)

set_option maxRecDepth 100000 in
set_option maxHeartbeats 8000000 in
theorem classLives_any (A : Nat → Addr) (w : World) (hA : ErrsAt w A) :
    Calls Tryd.prog 22 #[] w fun r w' => r = .returned (.bool true) ∧ Ext w w' := by
  have HD := Lib.hid (fun W => namedA_digit W)
  have HN := Lib.hid (fun W h => namedA_none ⟨#[119, 111, 114, 100]⟩ A W noName_word h)
  have HA := Lib.hid hA
  have HR := Lib.hid (fun W => rRange_d W)
  have HU := Lib.hid (fun W h => num_class A W h)
  have HO := Lib.hid (fun W => other_a W)
  have heq := eql_same
  clear hA
  go_enter Tryd.func22, Tryd.ntmps22
  go_wp2_with (first
    | (go_at_call 23; ((with_reducible refine (HD.out _).mono ?_); rintro e w1 ⟨rfl, hx1⟩))
    | (go_at_call 23; refine (HN.out _ (HA.out.ext (hx1.alloc _))).mono ?_; rintro e w2 ⟨rfl, hx2⟩))
  have hB1 : Blk _ _ 24 (setC digitB) := (Blk.new w1 24 (setC digitB)).ext hx2
  have hB := hB1.alloc (.cells #[.int .u64 (wd (fun _ => false) 0 : Int), .int .u64 (wd (fun _ => false) 1 : Int), .int .u64 (wd (fun _ => false) 2 : Int), .int .u64 (wd (fun _ => false) 3 : Int)] 24)
  have hx := (((hx1.alloc _).trans hx2).alloc (.cells #[.int .u64 (wd (fun _ => false) 0 : Int), .int .u64 (wd (fun _ => false) 1 : Int), .int .u64 (wd (fun _ => false) 2 : Int), .int .u64 (wd (fun _ => false) 3 : Int)] 24))
  generalize w2.alloc (.cells #[.int .u64 (wd (fun _ => false) 0 : Int), .int .u64 (wd (fun _ => false) 1 : Int), .int .u64 (wd (fun _ => false) 2 : Int), .int .u64 (wd (fun _ => false) 3 : Int)] 24) = w3 at *
  obtain ⟨a0, a1, a2, a3, _, _, _, _⟩ := setC_cells hB
  have p0 := cell_plus a0
  have p1 := cell_plus a1
  have p2 := cell_plus a2
  have p3 := cell_plus a3
  have hE := Lib.hid (HA.out.ext hx)
  clear a0 a1 a2 a3 hx1 hx2 HA HN
  refine wp_region_plus (by kernel_rfl) (by kernel_rfl) ?_
  repeat (go_big_quiet_step (first
    | (go_at_call 14; exact Calls.plus_of (HR.out _))
    | (go_at_call 25; exact Calls.plus_of (HU.out _ (hE.out.ext (plus_ext _ _))))
    | (go_at_call 29; exact Calls.plus_of_same (HO.out _))))
  refine wpQuiet_nil ?_
  intro y
  go_wp2
  go_ret
  exact ⟨rfl, hx.trans (plus_ext _ y)⟩

set_option maxHeartbeats 4000000 in
theorem has_alnum (b : Nat) (w : World) (hb : b < 256) :
    Calls Tryd.prog 28 #[.string ⟨#[97, 108, 110, 117, 109]⟩, .int .u8 (b : Int)] w fun r w' => r = .returned (.bool (alnumB b)) ∧ Ext w w' := by
  have HD := Lib.hid (fun W => namedA_alnum W)
  have HH := Lib.hid (fun W => has_a alnumB b W hb)
  go_enter Tryd.func28, Tryd.ntmps28
  go_wp2_with (first
    | (go_at_call 23; ((with_reducible refine (HD.out _).mono ?_); rintro e w1 ⟨rfl, hx1⟩))
    | (go_at_call 17; ((with_reducible refine (HH.out _).mono ?_); rintro e w2 ⟨rfl, hx2⟩)))
  go_ret
  exact ⟨rfl, (hx1.alloc _).trans hx2⟩

set_option maxHeartbeats 4000000 in
theorem has_alpha (b : Nat) (w : World) (hb : b < 256) :
    Calls Tryd.prog 28 #[.string ⟨#[97, 108, 112, 104, 97]⟩, .int .u8 (b : Int)] w fun r w' => r = .returned (.bool (alphaB b)) ∧ Ext w w' := by
  have HD := Lib.hid (fun W => namedA_alpha W)
  have HH := Lib.hid (fun W => has_a alphaB b W hb)
  go_enter Tryd.func28, Tryd.ntmps28
  go_wp2_with (first
    | (go_at_call 23; ((with_reducible refine (HD.out _).mono ?_); rintro e w1 ⟨rfl, hx1⟩))
    | (go_at_call 17; ((with_reducible refine (HH.out _).mono ?_); rintro e w2 ⟨rfl, hx2⟩)))
  go_ret
  exact ⟨rfl, (hx1.alloc _).trans hx2⟩

set_option maxHeartbeats 4000000 in
theorem has_blank (b : Nat) (w : World) (hb : b < 256) :
    Calls Tryd.prog 28 #[.string ⟨#[98, 108, 97, 110, 107]⟩, .int .u8 (b : Int)] w fun r w' => r = .returned (.bool (blankB b)) ∧ Ext w w' := by
  have HD := Lib.hid (fun W => namedA_blank W)
  have HH := Lib.hid (fun W => has_a blankB b W hb)
  go_enter Tryd.func28, Tryd.ntmps28
  go_wp2_with (first
    | (go_at_call 23; ((with_reducible refine (HD.out _).mono ?_); rintro e w1 ⟨rfl, hx1⟩))
    | (go_at_call 17; ((with_reducible refine (HH.out _).mono ?_); rintro e w2 ⟨rfl, hx2⟩)))
  go_ret
  exact ⟨rfl, (hx1.alloc _).trans hx2⟩

set_option maxHeartbeats 4000000 in
theorem has_cntrl (b : Nat) (w : World) (hb : b < 256) :
    Calls Tryd.prog 28 #[.string ⟨#[99, 110, 116, 114, 108]⟩, .int .u8 (b : Int)] w fun r w' => r = .returned (.bool (cntrlB b)) ∧ Ext w w' := by
  have HD := Lib.hid (fun W => namedA_cntrl W)
  have HH := Lib.hid (fun W => has_a cntrlB b W hb)
  go_enter Tryd.func28, Tryd.ntmps28
  go_wp2_with (first
    | (go_at_call 23; ((with_reducible refine (HD.out _).mono ?_); rintro e w1 ⟨rfl, hx1⟩))
    | (go_at_call 17; ((with_reducible refine (HH.out _).mono ?_); rintro e w2 ⟨rfl, hx2⟩)))
  go_ret
  exact ⟨rfl, (hx1.alloc _).trans hx2⟩

set_option maxHeartbeats 4000000 in
theorem has_digit (b : Nat) (w : World) (hb : b < 256) :
    Calls Tryd.prog 28 #[.string ⟨#[100, 105, 103, 105, 116]⟩, .int .u8 (b : Int)] w fun r w' => r = .returned (.bool (digitB b)) ∧ Ext w w' := by
  have HD := Lib.hid (fun W => namedA_digit W)
  have HH := Lib.hid (fun W => has_a digitB b W hb)
  go_enter Tryd.func28, Tryd.ntmps28
  go_wp2_with (first
    | (go_at_call 23; ((with_reducible refine (HD.out _).mono ?_); rintro e w1 ⟨rfl, hx1⟩))
    | (go_at_call 17; ((with_reducible refine (HH.out _).mono ?_); rintro e w2 ⟨rfl, hx2⟩)))
  go_ret
  exact ⟨rfl, (hx1.alloc _).trans hx2⟩

set_option maxHeartbeats 4000000 in
theorem has_graph (b : Nat) (w : World) (hb : b < 256) :
    Calls Tryd.prog 28 #[.string ⟨#[103, 114, 97, 112, 104]⟩, .int .u8 (b : Int)] w fun r w' => r = .returned (.bool (graphB b)) ∧ Ext w w' := by
  have HD := Lib.hid (fun W => namedA_graph W)
  have HH := Lib.hid (fun W => has_a graphB b W hb)
  go_enter Tryd.func28, Tryd.ntmps28
  go_wp2_with (first
    | (go_at_call 23; ((with_reducible refine (HD.out _).mono ?_); rintro e w1 ⟨rfl, hx1⟩))
    | (go_at_call 17; ((with_reducible refine (HH.out _).mono ?_); rintro e w2 ⟨rfl, hx2⟩)))
  go_ret
  exact ⟨rfl, (hx1.alloc _).trans hx2⟩

set_option maxHeartbeats 4000000 in
theorem has_lower (b : Nat) (w : World) (hb : b < 256) :
    Calls Tryd.prog 28 #[.string ⟨#[108, 111, 119, 101, 114]⟩, .int .u8 (b : Int)] w fun r w' => r = .returned (.bool (lowerB b)) ∧ Ext w w' := by
  have HD := Lib.hid (fun W => namedA_lower W)
  have HH := Lib.hid (fun W => has_a lowerB b W hb)
  go_enter Tryd.func28, Tryd.ntmps28
  go_wp2_with (first
    | (go_at_call 23; ((with_reducible refine (HD.out _).mono ?_); rintro e w1 ⟨rfl, hx1⟩))
    | (go_at_call 17; ((with_reducible refine (HH.out _).mono ?_); rintro e w2 ⟨rfl, hx2⟩)))
  go_ret
  exact ⟨rfl, (hx1.alloc _).trans hx2⟩

set_option maxHeartbeats 4000000 in
theorem has_print (b : Nat) (w : World) (hb : b < 256) :
    Calls Tryd.prog 28 #[.string ⟨#[112, 114, 105, 110, 116]⟩, .int .u8 (b : Int)] w fun r w' => r = .returned (.bool (printB b)) ∧ Ext w w' := by
  have HD := Lib.hid (fun W => namedA_print W)
  have HH := Lib.hid (fun W => has_a printB b W hb)
  go_enter Tryd.func28, Tryd.ntmps28
  go_wp2_with (first
    | (go_at_call 23; ((with_reducible refine (HD.out _).mono ?_); rintro e w1 ⟨rfl, hx1⟩))
    | (go_at_call 17; ((with_reducible refine (HH.out _).mono ?_); rintro e w2 ⟨rfl, hx2⟩)))
  go_ret
  exact ⟨rfl, (hx1.alloc _).trans hx2⟩

set_option maxHeartbeats 4000000 in
theorem has_punct (b : Nat) (w : World) (hb : b < 256) :
    Calls Tryd.prog 28 #[.string ⟨#[112, 117, 110, 99, 116]⟩, .int .u8 (b : Int)] w fun r w' => r = .returned (.bool (punctB b)) ∧ Ext w w' := by
  have HD := Lib.hid (fun W => namedA_punct W)
  have HH := Lib.hid (fun W => has_a punctB b W hb)
  go_enter Tryd.func28, Tryd.ntmps28
  go_wp2_with (first
    | (go_at_call 23; ((with_reducible refine (HD.out _).mono ?_); rintro e w1 ⟨rfl, hx1⟩))
    | (go_at_call 17; ((with_reducible refine (HH.out _).mono ?_); rintro e w2 ⟨rfl, hx2⟩)))
  go_ret
  exact ⟨rfl, (hx1.alloc _).trans hx2⟩

set_option maxHeartbeats 4000000 in
theorem has_space (b : Nat) (w : World) (hb : b < 256) :
    Calls Tryd.prog 28 #[.string ⟨#[115, 112, 97, 99, 101]⟩, .int .u8 (b : Int)] w fun r w' => r = .returned (.bool (spaceB b)) ∧ Ext w w' := by
  have HD := Lib.hid (fun W => namedA_space W)
  have HH := Lib.hid (fun W => has_a spaceB b W hb)
  go_enter Tryd.func28, Tryd.ntmps28
  go_wp2_with (first
    | (go_at_call 23; ((with_reducible refine (HD.out _).mono ?_); rintro e w1 ⟨rfl, hx1⟩))
    | (go_at_call 17; ((with_reducible refine (HH.out _).mono ?_); rintro e w2 ⟨rfl, hx2⟩)))
  go_ret
  exact ⟨rfl, (hx1.alloc _).trans hx2⟩

set_option maxHeartbeats 4000000 in
theorem has_upper (b : Nat) (w : World) (hb : b < 256) :
    Calls Tryd.prog 28 #[.string ⟨#[117, 112, 112, 101, 114]⟩, .int .u8 (b : Int)] w fun r w' => r = .returned (.bool (upperB b)) ∧ Ext w w' := by
  have HD := Lib.hid (fun W => namedA_upper W)
  have HH := Lib.hid (fun W => has_a upperB b W hb)
  go_enter Tryd.func28, Tryd.ntmps28
  go_wp2_with (first
    | (go_at_call 23; ((with_reducible refine (HD.out _).mono ?_); rintro e w1 ⟨rfl, hx1⟩))
    | (go_at_call 17; ((with_reducible refine (HH.out _).mono ?_); rintro e w2 ⟨rfl, hx2⟩)))
  go_ret
  exact ⟨rfl, (hx1.alloc _).trans hx2⟩

set_option maxHeartbeats 4000000 in
theorem has_xdigit (b : Nat) (w : World) (hb : b < 256) :
    Calls Tryd.prog 28 #[.string ⟨#[120, 100, 105, 103, 105, 116]⟩, .int .u8 (b : Int)] w fun r w' => r = .returned (.bool (xdigitB b)) ∧ Ext w w' := by
  have HD := Lib.hid (fun W => namedA_xdigit W)
  have HH := Lib.hid (fun W => has_a xdigitB b W hb)
  go_enter Tryd.func28, Tryd.ntmps28
  go_wp2_with (first
    | (go_at_call 23; ((with_reducible refine (HD.out _).mono ?_); rintro e w1 ⟨rfl, hx1⟩))
    | (go_at_call 17; ((with_reducible refine (HH.out _).mono ?_); rintro e w2 ⟨rfl, hx2⟩)))
  go_ret
  exact ⟨rfl, (hx1.alloc _).trans hx2⟩


end Go.Proofs.YteahmkhmkalimaaDoor
