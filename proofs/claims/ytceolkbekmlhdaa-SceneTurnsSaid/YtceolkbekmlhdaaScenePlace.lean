/- The law's own functions for scenes: place and same answer true where a scene in memory tells what the reference's scene tells. -/
import Derived.Test.YtceolkbekmlhdaaSceneText
namespace Go.Proofs.Ytceolkbekmlhdaa
open Go.RowKit

/-- At place i the scene in memory tells what the reference's scene tells. -/
def Tells (s' : ByteArray) (m : List UInt8) (s : ByteArray) (c e : Int) (t : Bool) (i : Int) : Prop :=
  sMark m i = srMarks s c e t i ∧ sBegin m i = srB s c e t i ∧ sEnd m i = srE s c e t i ∧
  ((srByte s t i = -1 ∧ sHas s' i = false ∧ sByte s' i = 0) ∨ ∃ x : UInt8, srByte s t i = x.toNat ∧ sHas s' i = true ∧ sByte s' i = x.toNat)

set_option maxHeartbeats 2000000 in
theorem place_any (p : Value) (s' : ByteArray) (m : List UInt8) (s : ByteArray) (c e : Int) (t : Bool) (i : Int) (w : World) (hs : s.size ≤ 1000000) (hm : m.length ≤ 10000000)
    (h : IsScene w p s' m) (ht : Tells s' m s c e t i) :
    Calls Try.prog 30 #[p, srV s c e t, .int .i64 i] w fun r w' => r = .returned (.bool true) ∧ Ext w w' := by
  obtain ⟨hM, hB, hE, hY⟩ := ht
  have HM := Lib.hid (fun W => marks_any p s' m i W hm)
  have HB := Lib.hid (fun W => begin_any p s' m i W hm)
  have HE := Lib.hid (fun W => end_any p s' m i W hm)
  have HY := Lib.hid (fun W => byte_any p s' m i W)
  have RM := Lib.hid (fun W => rMarks_any s c e t i W hs)
  have RB := Lib.hid (fun W => rBegin_any s c e t i W hs)
  have RE := Lib.hid (fun W => rEnd_any s c e t i W hs)
  have RY := Lib.hid (fun W => rByte_any s c e t i W hs)
  rw [hM] at HM
  rw [hB] at HB
  rw [hE] at HE
  generalize srMarks s c e t i = M at *
  generalize srB s c e t i = B at *
  generalize srE s c e t i = E at *
  clear hM hB hE
  rcases hY with ⟨h1, h2, h3⟩ | ⟨x, h1, h2, h3⟩
  · rw [h1] at RY
    rw [h2, h3] at HY
    clear h1 h2 h3
    unfold srV at *
    go_enter Try.func30, Try.ntmps30
    go_wp2_with (first
      | (go_at_call 35; refine (HY.out _ (h.ext ((Ext.refl w).alloc _))).mono ?_; rintro e w1 ⟨rfl, rfl⟩)
      | (go_at_call 34; refine (RY.out _).mono ?_; rintro e w2 ⟨rfl, hx⟩))
    have hs2 : IsScene w2 p s' m := (h.ext ((Ext.refl w).alloc _)).ext hx
    have k4p := box4p hx
    refine wp_region_plus (by kernel_rfl) (by kernel_rfl) ?_
    repeat (quiet_step ((first
      | (go_at_call 13; exact Calls.plus_of_same (HB.out _ (hs2.ext (plus_ext _ _))))
      | (go_at_call 14; exact Calls.plus_of_same (HE.out _ (hs2.ext (plus_ext _ _))))
      | (go_at_call 12; exact Calls.plus_of_same (HM.out _ (hs2.ext (plus_ext _ _))))
      | (go_at_call 36; exact Calls.plus_of (RB.out _))
      | (go_at_call 37; exact Calls.plus_of (RE.out _))
      | (go_at_call 38; exact Calls.plus_of (RM.out _)))))
    refine wpQuiet_nil ?_
    intro y
    go_wp2
    go_ret
    exact ⟨rfl, (((Ext.refl w).alloc _).trans hx).trans (plus_ext _ y)⟩
  · rw [h1] at RY
    rw [h2, h3] at HY
    clear h1 h2 h3
    have hw := wrap64_b x
    have hxl := x.toNat_lt
    have hwi : IntKind.i64.wrap (x.toNat : Int) = (x.toNat : Int) := IntWalk.i64_in _ (by omega)
    have hx0 : ¬ ((x.toNat : Int) < 0) := by omega
    have hx1 : (0 : Int) ≤ (x.toNat : Int) := by omega
    unfold srV at *
    go_enter Try.func30, Try.ntmps30
    go_wp2_with (first
      | (go_at_call 35; refine (HY.out _ (h.ext ((Ext.refl w).alloc _))).mono ?_; rintro e w1 ⟨rfl, rfl⟩)
      | (go_at_call 34; refine (RY.out _).mono ?_; rintro e w2 ⟨rfl, hx⟩))
    have hs2 : IsScene w2 p s' m := (h.ext ((Ext.refl w).alloc _)).ext hx
    have k4p := box4p hx
    refine wp_region_plus (by kernel_rfl) (by kernel_rfl) ?_
    repeat (quiet_step ((first
      | (go_at_call 13; exact Calls.plus_of_same (HB.out _ (hs2.ext (plus_ext _ _))))
      | (go_at_call 14; exact Calls.plus_of_same (HE.out _ (hs2.ext (plus_ext _ _))))
      | (go_at_call 12; exact Calls.plus_of_same (HM.out _ (hs2.ext (plus_ext _ _))))
      | (go_at_call 36; exact Calls.plus_of (RB.out _))
      | (go_at_call 37; exact Calls.plus_of (RE.out _))
      | (go_at_call 38; exact Calls.plus_of (RM.out _)))))
    refine wpQuiet_nil ?_
    intro y
    go_wp2
    go_ret
    exact ⟨rfl, (((Ext.refl w).alloc _).trans hx).trans (plus_ext _ y)⟩

set_option maxHeartbeats 2000000 in
theorem same_any (p : Value) (s' : ByteArray) (m : List UInt8) (s : ByteArray) (c e : Int) (t : Bool) (i : Int) (w : World) (hs : s.size ≤ 1000000) (hm : m.length ≤ 10000000)
    (h : IsScene w p s' m) (ht : ∀ i, Tells s' m s c e t i) (hl : s'.size = s.size) (htx : s' = srText s t) :
    Calls Try.prog 15 #[p, srV s c e t, .int .i64 i] w fun r w' => r = .returned (.bool true) ∧ Ext w w' := by
  have HP := Lib.hid (fun i W hW => place_any p s' m s c e t i W hs hm hW (ht i))
  have HL := Lib.hid (fun W => len_any p s' m W)
  have HT := Lib.hid (fun W => text_any p s' m W)
  have RT := Lib.hid (fun W => rText_any s c e t W hs)
  rw [← htx] at RT
  rw [hl] at HL
  clear htx hl ht
  obtain ⟨gp, hp⟩ : ∃ gp, p = .pointer (some ⟨gp, 0, none⟩) := by obtain ⟨g, _, hg, _⟩ := h; exact ⟨g, hg⟩
  subst hp
  unfold srV at *
  go_enter Try.func15, Try.ntmps15
  go_wp2_with fail
  obtain ⟨W, hW⟩ : ∃ W, W = w.alloc (.cells #[Value.string s, Value.int .i64 c, Value.int .i64 e, Value.bool t] 30) := ⟨_, rfl⟩
  rw [← hW]
  have hx0 : Ext w W := by rw [hW]; exact (Ext.refl w).alloc _
  have k4 : Ext (w.alloc (.cells #[Value.string s, Value.int .i64 c, Value.int .i64 e, Value.bool t] 30)) W := by rw [hW]; exact Ext.refl _
  have hsW : IsScene W (.pointer (some ⟨gp, 0, none⟩)) s' m := h.ext hx0
  clear hW h
  have k4p := box4p k4
  refine wp_region_plus (by kernel_rfl) (by kernel_rfl) ?_
  repeat (quiet_step ((first
      | (go_at_call 27; exact Calls.plus_of_same (HL.out _ (hsW.ext (plus_ext _ _))))
      | (go_at_call 28; exact Calls.plus_of_same (HT.out _ (hsW.ext (plus_ext _ _))))
      | (go_at_call 29; exact Calls.plus_of (RT.out _)))))
  refine wpQuiet_nil ?_
  intro y
  clear k4p
  have k4y := k4.trans (plus_ext W y)
  have hxy := hx0.trans (plus_ext W y)
  have hsy := hsW.ext (plus_ext W y)
  generalize plus W y = W1 at *
  clear k4 hx0 hsW
  go_wp2
  go_loopw [7] (fun i wr => ∃ k : Nat, k ≤ s.size + 3 ∧ i = .int .i64 ((k : Int) - 1) ∧ Ext W1 wr) (fun i _ => s.size + 3 - (intOf i + 1).toNat)
  case atStart => exact ⟨0, by omega, rfl, Ext.refl _⟩
  case round =>
    obtain ⟨k, hk, rfl, hx⟩ := hrel
    have k4 := box4 (k4y.trans hx)
    by_cases hlt : k < s.size + 3
    · go_wp2_with (go_at_call 30; refine (HP.out _ _ (hsy.ext hx)).mono ?_; rintro e w2 ⟨rfl, hx2⟩)
      go_roundw
      case rel => exact ⟨k + 1, by omega, by go_num, hx.trans hx2⟩
      case measure => simp [intOf]; omega
    · go_wp2_with (go_at_call 30; refine (HP.out _ _ (hsy.ext hx)).mono ?_; rintro e w2 ⟨rfl, hx2⟩)
      go_ret
      exact ⟨rfl, (hxy.trans hx).trans hx2⟩

end Go.Proofs.Ytceolkbekmlhdaa
