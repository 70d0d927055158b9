/- The laws ClassNamed and ClassFolds as walks. No condition but where the error values lie. -/
import Derived.Test.YteahmkhmkalimaaDoorClassA
namespace Go.Proofs.YteahmkhmkalimaaDoor
open Go.RowKit

theorem none_words : Value.agg #[.int .u64 (wd (fun _ => false) 0 : Int), .int .u64 (wd (fun _ => false) 1 : Int), .int .u64 (wd (fun _ => false) 2 : Int), .int .u64 (wd (fun _ => false) 3 : Int)] = .agg #[.int .u64 0, .int .u64 0, .int .u64 0, .int .u64 0] := by
  rw [wd_none, wd_none, wd_none, wd_none]
  rfl
set_option maxRecDepth 100000 in
set_option maxHeartbeats 8000000 in
theorem member_none (s : ByteArray) (b : Nat) (w : World) (hn : NoName s) :
    Calls Tryd.prog 45 #[.string s, .int .i64 (b : Int)] w fun r w' => r = .returned (.bool false) ∧ w = w' := by
  have n0 := noName_l (l := [97, 108, 110, 117, 109]) (hn 0 (by omega))
  have n1 := noName_l (l := [97, 108, 112, 104, 97]) (hn 1 (by omega))
  have n2 := noName_l (l := [98, 108, 97, 110, 107]) (hn 2 (by omega))
  have n3 := noName_l (l := [99, 110, 116, 114, 108]) (hn 3 (by omega))
  have n4 := noName_l (l := [100, 105, 103, 105, 116]) (hn 4 (by omega))
  have n5 := noName_l (l := [103, 114, 97, 112, 104]) (hn 5 (by omega))
  have n6 := noName_l (l := [108, 111, 119, 101, 114]) (hn 6 (by omega))
  have n7 := noName_l (l := [112, 114, 105, 110, 116]) (hn 7 (by omega))
  have n8 := noName_l (l := [112, 117, 110, 99, 116]) (hn 8 (by omega))
  have n9 := noName_l (l := [115, 112, 97, 99, 101]) (hn 9 (by omega))
  have n10 := noName_l (l := [117, 112, 112, 101, 114]) (hn 10 (by omega))
  have n11 := noName_l (l := [120, 100, 105, 103, 105, 116]) (hn 11 (by omega))
  have H0 := Lib.hid (fun W => in_any b 65 90 65 90 W rfl rfl)
  have H1 := Lib.hid (fun W => in_any b 97 122 97 122 W rfl rfl)
  have H2 := Lib.hid (fun W => in_any b 48 57 48 57 W rfl rfl)
  clear hn
  go_enter Tryd.func45, Tryd.ntmps45
  go_wp2_with (first
    | (go_at_call 50; ((with_reducible refine (H0.out _).mono ?_); rintro e w2 ⟨rfl, rfl⟩))
    | (go_at_call 50; ((with_reducible refine (H1.out _).mono ?_); rintro e w2 ⟨rfl, rfl⟩))
    | (go_at_call 50; ((with_reducible refine (H2.out _).mono ?_); rintro e w2 ⟨rfl, rfl⟩)))
  go_ret
  exact ⟨rfl, rfl⟩
theorem rNamedZ (s : ByteArray) (w : World) (hn : NoName s) :
    Calls Tryd.prog 24 #[.string s] w fun r w' => r = .returned (.tuple #[.agg #[.int .u64 0, .int .u64 0, .int .u64 0, .int .u64 0], .bool false]) ∧ Ext w w' := by
  have h := rNamed_core s (fun _ => false) w (fun b W => member_none s b W hn)
  rw [anyB_none] at h
  exact h.mono fun e w' ⟨h1, h2⟩ => ⟨by rw [h1, ← none_words]; rfl, h2⟩
theorem namedZ (s : ByteArray) (A : Nat → Addr) (w : World) (hn : NoName s) (hA : ErrsAt w A) :
    Calls Tryd.prog 23 #[.string s] w fun r w' => r = .returned (.tuple #[.agg #[.int .u64 0, .int .u64 0, .int .u64 0, .int .u64 0], .iface 86 (.pointer (some (A 5)))]) ∧ Ext w w' :=
  (namedA_none s A w hn hA).mono fun e w' ⟨h1, h2⟩ => ⟨by rw [h1, none_words], h2⟩

set_option maxRecDepth 100000 in
set_option maxHeartbeats 8000000 in
theorem classNamed_no (s : ByteArray) (A : Nat → Addr) (w : World) (hn : NoName s) (hA : ErrsAt w A) :
    Calls Tryd.prog 5 #[.string s] w fun r w' => r = .returned (.bool true) ∧ Ext w w' := by
  have HL := Lib.hid (classLives_any A w hA)
  have HD := Lib.hid (fun W h => namedZ s A W hn h)
  have HR := Lib.hid (fun W => rNamedZ s W hn)
  have HU := Lib.hid (fun W h => num_class A W h)
  have HA := Lib.hid hA
  have heq := eql_same
  clear hA hn
  go_enter Tryd.func5, Tryd.ntmps5
  go_wp2_with (first
    | (go_at_call 22; refine HL.out.mono ?_; rintro e w1 ⟨rfl, hx1⟩)
    | (go_at_call 23; ((with_reducible refine (HD.out _ (HA.out.ext hx1)).mono ?_); rintro e w2 ⟨rfl, hx2⟩))
    | (go_at_call 24; ((with_reducible refine (HR.out _).mono ?_); rintro e w3 ⟨rfl, hx3⟩; have hB : Blk _ _ 24 #[.int .u64 0, .int .u64 0, .int .u64 0, .int .u64 0] := (Blk.new w2 24 #[.int .u64 0, .int .u64 0, .int .u64 0, .int .u64 0]).ext hx3; have hz := hB.lt; have c0 := hB.cell 0; have c1 := hB.cell 1; have c2 := hB.cell 2; have c3 := hB.cell 3; have hxx := ((hx1.trans hx2).alloc (.cells #[.int .u64 0, .int .u64 0, .int .u64 0, .int .u64 0] 24)).trans hx3; simp at c0 c1 c2 c3))
    | (go_at_call 25; refine (HU.out _ ((HA.out.ext hxx).ext ((Ext.refl _).alloc _))).mono ?_; rintro e w4 ⟨rfl, hx4⟩; have k := (hB.alloc (.cells #[.int .u64 0, .int .u64 0, .int .u64 0, .int .u64 0] 24)).ext hx4; have d0 := k.cell 0; have d1 := k.cell 1; have d2 := k.cell 2; have d3 := k.cell 3; simp at d0 d1 d2 d3))
  go_ret
  exact ⟨rfl, (hxx.alloc _).trans hx4⟩

set_option maxRecDepth 100000 in
set_option maxHeartbeats 8000000 in
theorem classNamed_alnum (A : Nat → Addr) (w : World) (hA : ErrsAt w A) :
    Calls Tryd.prog 5 #[.string ⟨#[97, 108, 110, 117, 109]⟩] w fun r w' => r = .returned (.bool true) ∧ Ext w w' := by
  have HL := Lib.hid (classLives_any A w hA)
  have HD := Lib.hid (fun W => namedA_alnum W)
  have HR := Lib.hid (fun W => rNamedA_alnum W)
  have heq := eql_same
  clear hA
  go_enter Tryd.func5, Tryd.ntmps5
  go_wp2_with (first
    | (go_at_call 22; refine HL.out.mono ?_; rintro e w1 ⟨rfl, hx1⟩)
    | (go_at_call 23; ((with_reducible refine (HD.out _).mono ?_); rintro e w2 ⟨rfl, hx2⟩))
    | (go_at_call 24; ((with_reducible refine (HR.out _).mono ?_); rintro e w3 ⟨rfl, hx3⟩; have hB : Blk _ _ 24 (setC alnumB) := (Blk.new w2 24 (setC alnumB)).ext hx3; have hz := hB.lt; obtain ⟨c0, c1, c2, c3, _, _, _, _⟩ := setC_cells hB)))
  go_ret
  exact ⟨rfl, ((((hx1.trans hx2).alloc _).trans hx3).alloc _)⟩

set_option maxRecDepth 100000 in
set_option maxHeartbeats 8000000 in
theorem classNamed_alpha (A : Nat → Addr) (w : World) (hA : ErrsAt w A) :
    Calls Tryd.prog 5 #[.string ⟨#[97, 108, 112, 104, 97]⟩] w fun r w' => r = .returned (.bool true) ∧ Ext w w' := by
  have HL := Lib.hid (classLives_any A w hA)
  have HD := Lib.hid (fun W => namedA_alpha W)
  have HR := Lib.hid (fun W => rNamedA_alpha W)
  have heq := eql_same
  clear hA
  go_enter Tryd.func5, Tryd.ntmps5
  go_wp2_with (first
    | (go_at_call 22; refine HL.out.mono ?_; rintro e w1 ⟨rfl, hx1⟩)
    | (go_at_call 23; ((with_reducible refine (HD.out _).mono ?_); rintro e w2 ⟨rfl, hx2⟩))
    | (go_at_call 24; ((with_reducible refine (HR.out _).mono ?_); rintro e w3 ⟨rfl, hx3⟩; have hB : Blk _ _ 24 (setC alphaB) := (Blk.new w2 24 (setC alphaB)).ext hx3; have hz := hB.lt; obtain ⟨c0, c1, c2, c3, _, _, _, _⟩ := setC_cells hB)))
  go_ret
  exact ⟨rfl, ((((hx1.trans hx2).alloc _).trans hx3).alloc _)⟩

set_option maxRecDepth 100000 in
set_option maxHeartbeats 8000000 in
theorem classNamed_blank (A : Nat → Addr) (w : World) (hA : ErrsAt w A) :
    Calls Tryd.prog 5 #[.string ⟨#[98, 108, 97, 110, 107]⟩] w fun r w' => r = .returned (.bool true) ∧ Ext w w' := by
  have HL := Lib.hid (classLives_any A w hA)
  have HD := Lib.hid (fun W => namedA_blank W)
  have HR := Lib.hid (fun W => rNamedA_blank W)
  have heq := eql_same
  clear hA
  go_enter Tryd.func5, Tryd.ntmps5
  go_wp2_with (first
    | (go_at_call 22; refine HL.out.mono ?_; rintro e w1 ⟨rfl, hx1⟩)
    | (go_at_call 23; ((with_reducible refine (HD.out _).mono ?_); rintro e w2 ⟨rfl, hx2⟩))
    | (go_at_call 24; ((with_reducible refine (HR.out _).mono ?_); rintro e w3 ⟨rfl, hx3⟩; have hB : Blk _ _ 24 (setC blankB) := (Blk.new w2 24 (setC blankB)).ext hx3; have hz := hB.lt; obtain ⟨c0, c1, c2, c3, _, _, _, _⟩ := setC_cells hB)))
  go_ret
  exact ⟨rfl, ((((hx1.trans hx2).alloc _).trans hx3).alloc _)⟩

set_option maxRecDepth 100000 in
set_option maxHeartbeats 8000000 in
theorem classNamed_cntrl (A : Nat → Addr) (w : World) (hA : ErrsAt w A) :
    Calls Tryd.prog 5 #[.string ⟨#[99, 110, 116, 114, 108]⟩] w fun r w' => r = .returned (.bool true) ∧ Ext w w' := by
  have HL := Lib.hid (classLives_any A w hA)
  have HD := Lib.hid (fun W => namedA_cntrl W)
  have HR := Lib.hid (fun W => rNamedA_cntrl W)
  have heq := eql_same
  clear hA
  go_enter Tryd.func5, Tryd.ntmps5
  go_wp2_with (first
    | (go_at_call 22; refine HL.out.mono ?_; rintro e w1 ⟨rfl, hx1⟩)
    | (go_at_call 23; ((with_reducible refine (HD.out _).mono ?_); rintro e w2 ⟨rfl, hx2⟩))
    | (go_at_call 24; ((with_reducible refine (HR.out _).mono ?_); rintro e w3 ⟨rfl, hx3⟩; have hB : Blk _ _ 24 (setC cntrlB) := (Blk.new w2 24 (setC cntrlB)).ext hx3; have hz := hB.lt; obtain ⟨c0, c1, c2, c3, _, _, _, _⟩ := setC_cells hB)))
  go_ret
  exact ⟨rfl, ((((hx1.trans hx2).alloc _).trans hx3).alloc _)⟩

set_option maxRecDepth 100000 in
set_option maxHeartbeats 8000000 in
theorem classNamed_digit (A : Nat → Addr) (w : World) (hA : ErrsAt w A) :
    Calls Tryd.prog 5 #[.string ⟨#[100, 105, 103, 105, 116]⟩] w fun r w' => r = .returned (.bool true) ∧ Ext w w' := by
  have HL := Lib.hid (classLives_any A w hA)
  have HD := Lib.hid (fun W => namedA_digit W)
  have HR := Lib.hid (fun W => rNamedA_digit W)
  have heq := eql_same
  clear hA
  go_enter Tryd.func5, Tryd.ntmps5
  go_wp2_with (first
    | (go_at_call 22; refine HL.out.mono ?_; rintro e w1 ⟨rfl, hx1⟩)
    | (go_at_call 23; ((with_reducible refine (HD.out _).mono ?_); rintro e w2 ⟨rfl, hx2⟩))
    | (go_at_call 24; ((with_reducible refine (HR.out _).mono ?_); rintro e w3 ⟨rfl, hx3⟩; have hB : Blk _ _ 24 (setC digitB) := (Blk.new w2 24 (setC digitB)).ext hx3; have hz := hB.lt; obtain ⟨c0, c1, c2, c3, _, _, _, _⟩ := setC_cells hB)))
  go_ret
  exact ⟨rfl, ((((hx1.trans hx2).alloc _).trans hx3).alloc _)⟩

set_option maxRecDepth 100000 in
set_option maxHeartbeats 8000000 in
theorem classNamed_graph (A : Nat → Addr) (w : World) (hA : ErrsAt w A) :
    Calls Tryd.prog 5 #[.string ⟨#[103, 114, 97, 112, 104]⟩] w fun r w' => r = .returned (.bool true) ∧ Ext w w' := by
  have HL := Lib.hid (classLives_any A w hA)
  have HD := Lib.hid (fun W => namedA_graph W)
  have HR := Lib.hid (fun W => rNamedA_graph W)
  have heq := eql_same
  clear hA
  go_enter Tryd.func5, Tryd.ntmps5
  go_wp2_with (first
    | (go_at_call 22; refine HL.out.mono ?_; rintro e w1 ⟨rfl, hx1⟩)
    | (go_at_call 23; ((with_reducible refine (HD.out _).mono ?_); rintro e w2 ⟨rfl, hx2⟩))
    | (go_at_call 24; ((with_reducible refine (HR.out _).mono ?_); rintro e w3 ⟨rfl, hx3⟩; have hB : Blk _ _ 24 (setC graphB) := (Blk.new w2 24 (setC graphB)).ext hx3; have hz := hB.lt; obtain ⟨c0, c1, c2, c3, _, _, _, _⟩ := setC_cells hB)))
  go_ret
  exact ⟨rfl, ((((hx1.trans hx2).alloc _).trans hx3).alloc _)⟩

set_option maxRecDepth 100000 in
set_option maxHeartbeats 8000000 in
theorem classNamed_lower (A : Nat → Addr) (w : World) (hA : ErrsAt w A) :
    Calls Tryd.prog 5 #[.string ⟨#[108, 111, 119, 101, 114]⟩] w fun r w' => r = .returned (.bool true) ∧ Ext w w' := by
  have HL := Lib.hid (classLives_any A w hA)
  have HD := Lib.hid (fun W => namedA_lower W)
  have HR := Lib.hid (fun W => rNamedA_lower W)
  have heq := eql_same
  clear hA
  go_enter Tryd.func5, Tryd.ntmps5
  go_wp2_with (first
    | (go_at_call 22; refine HL.out.mono ?_; rintro e w1 ⟨rfl, hx1⟩)
    | (go_at_call 23; ((with_reducible refine (HD.out _).mono ?_); rintro e w2 ⟨rfl, hx2⟩))
    | (go_at_call 24; ((with_reducible refine (HR.out _).mono ?_); rintro e w3 ⟨rfl, hx3⟩; have hB : Blk _ _ 24 (setC lowerB) := (Blk.new w2 24 (setC lowerB)).ext hx3; have hz := hB.lt; obtain ⟨c0, c1, c2, c3, _, _, _, _⟩ := setC_cells hB)))
  go_ret
  exact ⟨rfl, ((((hx1.trans hx2).alloc _).trans hx3).alloc _)⟩

set_option maxRecDepth 100000 in
set_option maxHeartbeats 8000000 in
theorem classNamed_print (A : Nat → Addr) (w : World) (hA : ErrsAt w A) :
    Calls Tryd.prog 5 #[.string ⟨#[112, 114, 105, 110, 116]⟩] w fun r w' => r = .returned (.bool true) ∧ Ext w w' := by
  have HL := Lib.hid (classLives_any A w hA)
  have HD := Lib.hid (fun W => namedA_print W)
  have HR := Lib.hid (fun W => rNamedA_print W)
  have heq := eql_same
  clear hA
  go_enter Tryd.func5, Tryd.ntmps5
  go_wp2_with (first
    | (go_at_call 22; refine HL.out.mono ?_; rintro e w1 ⟨rfl, hx1⟩)
    | (go_at_call 23; ((with_reducible refine (HD.out _).mono ?_); rintro e w2 ⟨rfl, hx2⟩))
    | (go_at_call 24; ((with_reducible refine (HR.out _).mono ?_); rintro e w3 ⟨rfl, hx3⟩; have hB : Blk _ _ 24 (setC printB) := (Blk.new w2 24 (setC printB)).ext hx3; have hz := hB.lt; obtain ⟨c0, c1, c2, c3, _, _, _, _⟩ := setC_cells hB)))
  go_ret
  exact ⟨rfl, ((((hx1.trans hx2).alloc _).trans hx3).alloc _)⟩

set_option maxRecDepth 100000 in
set_option maxHeartbeats 8000000 in
theorem classNamed_punct (A : Nat → Addr) (w : World) (hA : ErrsAt w A) :
    Calls Tryd.prog 5 #[.string ⟨#[112, 117, 110, 99, 116]⟩] w fun r w' => r = .returned (.bool true) ∧ Ext w w' := by
  have HL := Lib.hid (classLives_any A w hA)
  have HD := Lib.hid (fun W => namedA_punct W)
  have HR := Lib.hid (fun W => rNamedA_punct W)
  have heq := eql_same
  clear hA
  go_enter Tryd.func5, Tryd.ntmps5
  go_wp2_with (first
    | (go_at_call 22; refine HL.out.mono ?_; rintro e w1 ⟨rfl, hx1⟩)
    | (go_at_call 23; ((with_reducible refine (HD.out _).mono ?_); rintro e w2 ⟨rfl, hx2⟩))
    | (go_at_call 24; ((with_reducible refine (HR.out _).mono ?_); rintro e w3 ⟨rfl, hx3⟩; have hB : Blk _ _ 24 (setC punctB) := (Blk.new w2 24 (setC punctB)).ext hx3; have hz := hB.lt; obtain ⟨c0, c1, c2, c3, _, _, _, _⟩ := setC_cells hB)))
  go_ret
  exact ⟨rfl, ((((hx1.trans hx2).alloc _).trans hx3).alloc _)⟩

set_option maxRecDepth 100000 in
set_option maxHeartbeats 8000000 in
theorem classNamed_space (A : Nat → Addr) (w : World) (hA : ErrsAt w A) :
    Calls Tryd.prog 5 #[.string ⟨#[115, 112, 97, 99, 101]⟩] w fun r w' => r = .returned (.bool true) ∧ Ext w w' := by
  have HL := Lib.hid (classLives_any A w hA)
  have HD := Lib.hid (fun W => namedA_space W)
  have HR := Lib.hid (fun W => rNamedA_space W)
  have heq := eql_same
  clear hA
  go_enter Tryd.func5, Tryd.ntmps5
  go_wp2_with (first
    | (go_at_call 22; refine HL.out.mono ?_; rintro e w1 ⟨rfl, hx1⟩)
    | (go_at_call 23; ((with_reducible refine (HD.out _).mono ?_); rintro e w2 ⟨rfl, hx2⟩))
    | (go_at_call 24; ((with_reducible refine (HR.out _).mono ?_); rintro e w3 ⟨rfl, hx3⟩; have hB : Blk _ _ 24 (setC spaceB) := (Blk.new w2 24 (setC spaceB)).ext hx3; have hz := hB.lt; obtain ⟨c0, c1, c2, c3, _, _, _, _⟩ := setC_cells hB)))
  go_ret
  exact ⟨rfl, ((((hx1.trans hx2).alloc _).trans hx3).alloc _)⟩

set_option maxRecDepth 100000 in
set_option maxHeartbeats 8000000 in
theorem classNamed_upper (A : Nat → Addr) (w : World) (hA : ErrsAt w A) :
    Calls Tryd.prog 5 #[.string ⟨#[117, 112, 112, 101, 114]⟩] w fun r w' => r = .returned (.bool true) ∧ Ext w w' := by
  have HL := Lib.hid (classLives_any A w hA)
  have HD := Lib.hid (fun W => namedA_upper W)
  have HR := Lib.hid (fun W => rNamedA_upper W)
  have heq := eql_same
  clear hA
  go_enter Tryd.func5, Tryd.ntmps5
  go_wp2_with (first
    | (go_at_call 22; refine HL.out.mono ?_; rintro e w1 ⟨rfl, hx1⟩)
    | (go_at_call 23; ((with_reducible refine (HD.out _).mono ?_); rintro e w2 ⟨rfl, hx2⟩))
    | (go_at_call 24; ((with_reducible refine (HR.out _).mono ?_); rintro e w3 ⟨rfl, hx3⟩; have hB : Blk _ _ 24 (setC upperB) := (Blk.new w2 24 (setC upperB)).ext hx3; have hz := hB.lt; obtain ⟨c0, c1, c2, c3, _, _, _, _⟩ := setC_cells hB)))
  go_ret
  exact ⟨rfl, ((((hx1.trans hx2).alloc _).trans hx3).alloc _)⟩

set_option maxRecDepth 100000 in
set_option maxHeartbeats 8000000 in
theorem classNamed_xdigit (A : Nat → Addr) (w : World) (hA : ErrsAt w A) :
    Calls Tryd.prog 5 #[.string ⟨#[120, 100, 105, 103, 105, 116]⟩] w fun r w' => r = .returned (.bool true) ∧ Ext w w' := by
  have HL := Lib.hid (classLives_any A w hA)
  have HD := Lib.hid (fun W => namedA_xdigit W)
  have HR := Lib.hid (fun W => rNamedA_xdigit W)
  have heq := eql_same
  clear hA
  go_enter Tryd.func5, Tryd.ntmps5
  go_wp2_with (first
    | (go_at_call 22; refine HL.out.mono ?_; rintro e w1 ⟨rfl, hx1⟩)
    | (go_at_call 23; ((with_reducible refine (HD.out _).mono ?_); rintro e w2 ⟨rfl, hx2⟩))
    | (go_at_call 24; ((with_reducible refine (HR.out _).mono ?_); rintro e w3 ⟨rfl, hx3⟩; have hB : Blk _ _ 24 (setC xdigitB) := (Blk.new w2 24 (setC xdigitB)).ext hx3; have hz := hB.lt; obtain ⟨c0, c1, c2, c3, _, _, _, _⟩ := setC_cells hB)))
  go_ret
  exact ⟨rfl, ((((hx1.trans hx2).alloc _).trans hx3).alloc _)⟩

theorem classNamed_walk (s : ByteArray) (_w0 : s.size ≤ maxLen) (w : World) (hE : ∃ A, ErrsAt w A) :
    Calls Tryd.prog 5 #[.string s] w fun r w' => r = .returned (.bool true) ∧ Ext w w' := by
  obtain ⟨A, hA⟩ := hE
  by_cases hn : NoName s
  · exact classNamed_no s A w hn hA
  · have hn2 : ∃ c, c < 12 ∧ s = clsN c := by
      apply Classical.byContradiction
      intro h
      exact hn (fun c hc he => h ⟨c, hc, he⟩)
    obtain ⟨c, hc, rfl⟩ := hn2
    rcases (show c = 0 ∨ c = 1 ∨ c = 2 ∨ c = 3 ∨ c = 4 ∨ c = 5 ∨ c = 6 ∨ c = 7 ∨ c = 8 ∨ c = 9 ∨ c = 10 ∨ c = 11 from by omega) with rfl | rfl | rfl | rfl | rfl | rfl | rfl | rfl | rfl | rfl | rfl | rfl
    · exact classNamed_alnum A w hA
    · exact classNamed_alpha A w hA
    · exact classNamed_blank A w hA
    · exact classNamed_cntrl A w hA
    · exact classNamed_digit A w hA
    · exact classNamed_graph A w hA
    · exact classNamed_lower A w hA
    · exact classNamed_print A w hA
    · exact classNamed_punct A w hA
    · exact classNamed_space A w hA
    · exact classNamed_upper A w hA
    · exact classNamed_xdigit A w hA

end Go.Proofs.YteahmkhmkalimaaDoor
