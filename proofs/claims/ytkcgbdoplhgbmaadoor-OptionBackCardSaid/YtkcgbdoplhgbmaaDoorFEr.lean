/- An error off the law's sentinel in links: what it is; fault.At, In; Place and Index of both packages. Condition: how the error lies in memory; the package errors' own variable. Printed by genfer.py. -/
import Derived.Test.YtkcgbdoplhgbmaaDoorFasF
import Derived.Test.YtkcgbdoplhgbmaaDoorFasL
namespace Go.Proofs.YtkcgbdoplhgbmaaDoor
open Go Go.RowKit Go.Extern.Stop Go.Stop Go.Extern

/-- The law's number of an error value's number. -/
def codeP (n : Int) : Int := if n < 0 ∨ 21 < n then -1 else n
/-- The error of number n in links (the outermost first). -/
def FErr (w : World) (A : Nat → Addr) (n : Int) (l : List (Bool × Int)) (v : Value) : Prop :=
  (n = 0 ∧ v = .nilIface) ∨ (n ≠ 0 ∧ ∃ a, Chn w l (errV a) v ∧ (∃ c t, w.heap[a.block]? = some (.cells c t (0, 0))) ∧ (1 ≤ n → n ≤ 21 → a = A (n.toNat - 1)) ∧ (n < 0 ∨ 21 < n → ∀ i, i < 21 → A i ≠ a))
theorem FErr.ext {w w' : World} (hx : Ext w w') {A : Nat → Addr} {n : Int} {l : List (Bool × Int)} {v : Value} (h : FErr w A n l v) : FErr w' A n l v := by
  rcases h with h | ⟨h0, a, h1, ⟨c, t, h2⟩, h3, h4⟩
  · exact .inl h
  · exact .inr ⟨h0, a, h1.ext hx, ⟨c, t, Blk.ext (t := t) (cs := c) h2 hx⟩, h3, h4⟩
/-- errors.As of nil. -/
theorem as_nil (t : Value) (w : World) : Calls Tryd.prog 72 #[.nilIface, t] w fun e w' => e = .returned (.bool false) ∧ w = w' := by
  go_enter Tryd.func72, Tryd.ntmps72
  go_wp2
  go_ret
  exact ⟨rfl, rfl⟩
/-- The number that Place (false) or Index (true) tells. -/
def plF (b : Bool) (n : Int) (l : List (Bool × Int)) : Option Int := if n = 0 then none else firstL b l


theorem at_any (k : Int) (A : Nat → Addr) (n : Int) (l : List (Bool × Int)) (v : Value) (w : World) (h : FErr w A n l v) :
    Calls Tryd.prog 47 #[.int .i64 k, v] w fun e w' => ∃ v', e = .returned v' ∧ Ext w w' ∧ FErr w' A n ((false, k) :: l) v' := by
  have H := Lib.hid h
  rcases h with ⟨rfl, rfl⟩ | ⟨h0, a, h1, _, h3, h4⟩
  · clear H
    go_enter Tryd.func47, Tryd.ntmps47
    go_wp2
    go_ret
    exact ⟨_, rfl, Ext.refl _, .inl ⟨rfl, rfl⟩⟩
  · obtain ⟨tv, xv, rfl⟩ := h1.isIf ⟨_, _, rfl⟩
    clear h0 h1 h3 h4
    go_enter Tryd.func47, Tryd.ntmps47
    go_wp2
    go_ret
    have hx : Ext w (w.alloc (.cells #[.int .i64 k, .iface tv xv] 103)) := (Ext.refl w).alloc _
    refine ⟨_, rfl, hx, ?_⟩
    rcases H.out.ext hx with ⟨_, h⟩ | ⟨h0, a, h1, h2, h3, h4⟩
    · cases h
    · refine .inr ⟨h0, a, ⟨w.heap.size, .iface tv xv, ?_, ?_, h1⟩, h2, h3, h4⟩
      · simp only [lkT, Bool.false_eq_true, if_false]
        rfl
      · simp only [lkS, Bool.false_eq_true, if_false]
        exact Blk.new w _ _


theorem in_any (k : Int) (A : Nat → Addr) (n : Int) (l : List (Bool × Int)) (v : Value) (w : World) (h : FErr w A n l v) :
    Calls Tryd.prog 48 #[.int .i64 k, v] w fun e w' => ∃ v', e = .returned v' ∧ Ext w w' ∧ FErr w' A n ((true, k) :: l) v' := by
  have H := Lib.hid h
  rcases h with ⟨rfl, rfl⟩ | ⟨h0, a, h1, _, h3, h4⟩
  · clear H
    go_enter Tryd.func48, Tryd.ntmps48
    go_wp2
    go_ret
    exact ⟨_, rfl, Ext.refl _, .inl ⟨rfl, rfl⟩⟩
  · obtain ⟨tv, xv, rfl⟩ := h1.isIf ⟨_, _, rfl⟩
    clear h0 h1 h3 h4
    go_enter Tryd.func48, Tryd.ntmps48
    go_wp2
    go_ret
    have hx : Ext w (w.alloc (.cells #[.int .i64 k, .iface tv xv] 98)) := (Ext.refl w).alloc _
    refine ⟨_, rfl, hx, ?_⟩
    rcases H.out.ext hx with ⟨_, h⟩ | ⟨h0, a, h1, h2, h3, h4⟩
    · cases h
    · refine .inr ⟨h0, a, ⟨w.heap.size, .iface tv xv, ?_, ?_, h1⟩, h2, h3, h4⟩
      · simp only [lkT, if_true]
        rfl
      · simp only [lkS, if_true]
        exact Blk.new w _ _


set_option maxRecDepth 100000 in
set_option maxHeartbeats 2000000 in
theorem place_any (A : Nat → Addr) (n : Int) (l : List (Bool × Int)) (v : Value) (w : World) (h : FErr w A n l v) (hg : w.cell? ⟨21, 0, none⟩ = some errTV) :
    Calls Tryd.prog 42 #[v] w fun e w' => e = .returned (.tuple #[.int .i64 ((plF false n l).getD 0), .bool (plF false n l).isSome]) ∧ Ext w w' := by
  rcases h with ⟨rfl, rfl⟩ | ⟨h0, a, h1, _, _, _⟩
  · have hN := Lib.hid (fun (t : Value) (W : World) => as_nil t W)
    simp only [plF, if_pos]
    clear hg
    go_enter Tryd.func42, Tryd.ntmps42
    go_wp2_with (go_at_call 72; refine (hN.out _ _).mono ?_; rintro e w5 ⟨rfl, rfl⟩)
    go_ret2
    exact ⟨rfl, (Ext.refl w).alloc _⟩
  · have HL := Lib.hid (fun W (hx : Ext w W) hp => as_chnF l a v W (h1.ext hx) w.heap.size (.pointer none) hp (hx.cell hg))
    obtain ⟨tv, xv, rfl⟩ := h1.isIf ⟨_, _, rfl⟩
    rw [show plF false n l = firstL false l from if_neg h0]
    clear h0 h1 hg
    cases hf : firstL false l with
    | none =>
      rw [hf] at HL
      clear hf
      go_enter Tryd.func42, Tryd.ntmps42
      go_wp2_with (go_at_call 72; refine (HL.out _ ((Ext.refl w).alloc _) (Blk.new w _ _)).mono ?_; rintro e w5 ⟨rfl, hG⟩; have HG := Lib.hid hG; clear hG)
      go_ret2
      exact ⟨rfl, ((Ext.refl w).alloc _).trans HG.out⟩
    | some k =>
      rw [hf] at HL
      clear hf
      go_enter Tryd.func42, Tryd.ntmps42
      go_wp2_with (go_at_call 72; refine (HL.out _ ((Ext.refl w).alloc _) (Blk.new w _ _)).mono ?_; rintro e w5 ⟨rfl, hK, g, v', b1, b2⟩; simp only [lkT, lkS, Bool.false_eq_true, if_false] at b1 b2; have c1 := b1.cell 0; have c2 := b2.cell 0; have c3 := b1.frozen 0; have HK := Lib.hid hK; clear hK b1 b2)
      go_ret2
      exact ⟨rfl, Ext.keeps ((Ext.refl w).alloc _) HK.out (fun i hi he => by omega)⟩


set_option maxRecDepth 100000 in
set_option maxHeartbeats 2000000 in
theorem index_any (A : Nat → Addr) (n : Int) (l : List (Bool × Int)) (v : Value) (w : World) (h : FErr w A n l v) (hg : w.cell? ⟨21, 0, none⟩ = some errTV) :
    Calls Tryd.prog 43 #[v] w fun e w' => e = .returned (.tuple #[.int .i64 ((plF true n l).getD 0), .bool (plF true n l).isSome]) ∧ Ext w w' := by
  rcases h with ⟨rfl, rfl⟩ | ⟨h0, a, h1, _, _, _⟩
  · have hN := Lib.hid (fun (t : Value) (W : World) => as_nil t W)
    simp only [plF, if_pos]
    clear hg
    go_enter Tryd.func43, Tryd.ntmps43
    go_wp2_with (go_at_call 72; refine (hN.out _ _).mono ?_; rintro e w5 ⟨rfl, rfl⟩)
    go_ret2
    exact ⟨rfl, (Ext.refl w).alloc _⟩
  · have HL := Lib.hid (fun W (hx : Ext w W) hp => as_chnL l a v W (h1.ext hx) w.heap.size (.pointer none) hp (hx.cell hg))
    obtain ⟨tv, xv, rfl⟩ := h1.isIf ⟨_, _, rfl⟩
    rw [show plF true n l = firstL true l from if_neg h0]
    clear h0 h1 hg
    cases hf : firstL true l with
    | none =>
      rw [hf] at HL
      clear hf
      go_enter Tryd.func43, Tryd.ntmps43
      go_wp2_with (go_at_call 72; refine (HL.out _ ((Ext.refl w).alloc _) (Blk.new w _ _)).mono ?_; rintro e w5 ⟨rfl, hG⟩; have HG := Lib.hid hG; clear hG)
      go_ret2
      exact ⟨rfl, ((Ext.refl w).alloc _).trans HG.out⟩
    | some k =>
      rw [hf] at HL
      clear hf
      go_enter Tryd.func43, Tryd.ntmps43
      go_wp2_with (go_at_call 72; refine (HL.out _ ((Ext.refl w).alloc _) (Blk.new w _ _)).mono ?_; rintro e w5 ⟨rfl, hK, g, v', b1, b2⟩; simp only [lkT, lkS, if_true] at b1 b2; have c1 := b1.cell 0; have c2 := b2.cell 0; have c3 := b1.frozen 0; have HK := Lib.hid hK; clear hK b1 b2)
      go_ret2
      exact ⟨rfl, Ext.keeps ((Ext.refl w).alloc _) HK.out (fun i hi he => by omega)⟩


set_option maxRecDepth 100000 in
set_option maxHeartbeats 2000000 in
theorem numPlace_any (A : Nat → Addr) (n : Int) (l : List (Bool × Int)) (v : Value) (w : World) (h : FErr w A n l v) (hg : w.cell? ⟨21, 0, none⟩ = some errTV) :
    Calls Tryd.prog 49 #[v] w fun e w' => e = .returned (.int .i64 ((plF false n l).getD (-1))) ∧ Ext w w' := by
  rcases h with ⟨rfl, rfl⟩ | ⟨h0, a, h1, _, _, _⟩
  · have hN := Lib.hid (fun (t : Value) (W : World) => as_nil t W)
    simp only [plF, if_pos]
    clear hg
    go_enter Tryd.func49, Tryd.ntmps49
    go_wp2_with (go_at_call 72; refine (hN.out _ _).mono ?_; rintro e w5 ⟨rfl, rfl⟩)
    go_ret
    exact ⟨rfl, (Ext.refl w).alloc _⟩
  · have HL := Lib.hid (fun W (hx : Ext w W) hp => as_chnF l a v W (h1.ext hx) w.heap.size (.pointer none) hp (hx.cell hg))
    obtain ⟨tv, xv, rfl⟩ := h1.isIf ⟨_, _, rfl⟩
    rw [show plF false n l = firstL false l from if_neg h0]
    clear h0 h1 hg
    cases hf : firstL false l with
    | none =>
      rw [hf] at HL
      clear hf
      go_enter Tryd.func49, Tryd.ntmps49
      go_wp2_with (go_at_call 72; refine (HL.out _ ((Ext.refl w).alloc _) (Blk.new w _ _)).mono ?_; rintro e w5 ⟨rfl, hG⟩; have HG := Lib.hid hG; clear hG)
      go_ret
      exact ⟨rfl, ((Ext.refl w).alloc _).trans HG.out⟩
    | some k =>
      rw [hf] at HL
      clear hf
      go_enter Tryd.func49, Tryd.ntmps49
      go_wp2_with (go_at_call 72; refine (HL.out _ ((Ext.refl w).alloc _) (Blk.new w _ _)).mono ?_; rintro e w5 ⟨rfl, hK, g, v', b1, b2⟩; simp only [lkT, lkS, Bool.false_eq_true, if_false] at b1 b2; have c1 := b1.cell 0; have c2 := b2.cell 0; have c3 := b1.frozen 0; have HK := Lib.hid hK; clear hK b1 b2)
      go_ret
      exact ⟨rfl, Ext.keeps ((Ext.refl w).alloc _) HK.out (fun i hi he => by omega)⟩


set_option maxRecDepth 100000 in
set_option maxHeartbeats 2000000 in
theorem numIndex_any (A : Nat → Addr) (n : Int) (l : List (Bool × Int)) (v : Value) (w : World) (h : FErr w A n l v) (hg : w.cell? ⟨21, 0, none⟩ = some errTV) :
    Calls Tryd.prog 32 #[v] w fun e w' => e = .returned (.int .i64 ((plF true n l).getD (-1))) ∧ Ext w w' := by
  rcases h with ⟨rfl, rfl⟩ | ⟨h0, a, h1, _, _, _⟩
  · have hN := Lib.hid (fun (t : Value) (W : World) => as_nil t W)
    simp only [plF, if_pos]
    clear hg
    go_enter Tryd.func32, Tryd.ntmps32
    go_wp2_with (go_at_call 72; refine (hN.out _ _).mono ?_; rintro e w5 ⟨rfl, rfl⟩)
    go_ret
    exact ⟨rfl, (Ext.refl w).alloc _⟩
  · have HL := Lib.hid (fun W (hx : Ext w W) hp => as_chnL l a v W (h1.ext hx) w.heap.size (.pointer none) hp (hx.cell hg))
    obtain ⟨tv, xv, rfl⟩ := h1.isIf ⟨_, _, rfl⟩
    rw [show plF true n l = firstL true l from if_neg h0]
    clear h0 h1 hg
    cases hf : firstL true l with
    | none =>
      rw [hf] at HL
      clear hf
      go_enter Tryd.func32, Tryd.ntmps32
      go_wp2_with (go_at_call 72; refine (HL.out _ ((Ext.refl w).alloc _) (Blk.new w _ _)).mono ?_; rintro e w5 ⟨rfl, hG⟩; have HG := Lib.hid hG; clear hG)
      go_ret
      exact ⟨rfl, ((Ext.refl w).alloc _).trans HG.out⟩
    | some k =>
      rw [hf] at HL
      clear hf
      go_enter Tryd.func32, Tryd.ntmps32
      go_wp2_with (go_at_call 72; refine (HL.out _ ((Ext.refl w).alloc _) (Blk.new w _ _)).mono ?_; rintro e w5 ⟨rfl, hK, g, v', b1, b2⟩; simp only [lkT, lkS, if_true] at b1 b2; have c1 := b1.cell 0; have c2 := b2.cell 0; have c3 := b1.frozen 0; have HK := Lib.hid hK; clear hK b1 b2)
      go_ret
      exact ⟨rfl, Ext.keeps ((Ext.refl w).alloc _) HK.out (fun i hi he => by omega)⟩

end Go.Proofs.YtkcgbdoplhgbmaaDoor