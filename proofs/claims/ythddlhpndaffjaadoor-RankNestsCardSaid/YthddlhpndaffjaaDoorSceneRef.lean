/- The reference's functions for scenes, each as a contract: what it answers, as a plain function of the subject and the flags. -/
import Derived.Test.YthddlhpndaffjaaDoorProg
import Derived.Test.YthddlhpndaffjaaDoorLib
namespace Go.Proofs.YthddlhpndaffjaaDoor
open Go.RowKit

/-- Is a flag on? -/
def bq (a b : Int) : Bool := bits .and .i64 a b != 0
def srBegin (s : ByteArray) (c e i : Int) : Bool :=
  if i = 0 then !bq e 1 else if 0 < i ∧ i ≤ s.size then bq c 4 && ((s.data.toList.getD (i.toNat - 1) 0).toNat : Int) == 10 else false
def srEnd (s : ByteArray) (c e i : Int) : Bool :=
  if i = s.size then !bq e 2 else if 0 ≤ i ∧ i < s.size then bq c 4 && ((s.data.toList.getD i.toNat 0).toNat : Int) == 10 else false
def srIn (s : ByteArray) (i : Int) : Bool := decide (0 ≤ i ∧ i ≤ s.size)
def srPlace (s : ByteArray) (t : Bool) (i : Int) : Int := if t then s.size - i else i
def srB (s : ByteArray) (c e : Int) (t : Bool) (i : Int) : Bool :=
  if srIn s i then (if t then srEnd s c e (s.size - i) else srBegin s c e i) else false
def srE (s : ByteArray) (c e : Int) (t : Bool) (i : Int) : Bool :=
  if srIn s i then (if t then srBegin s c e (s.size - i) else srEnd s c e i) else false
def srMarks (s : ByteArray) (c e : Int) (t : Bool) (i : Int) : Int := (if srB s c e t i then 1 else 0) + (if srE s c e t i then 2 else 0)
def srByte (s : ByteArray) (t : Bool) (i : Int) : Int :=
  if 0 ≤ i ∧ i < s.size then (if t then (s.data.toList.getD (s.size - 1 - i.toNat) 0).toNat else (s.data.toList.getD i.toNat 0).toNat) else -1
def srV (s : ByteArray) (c e : Int) (t : Bool) : Value := .agg #[.string s, .int .i64 c, .int .i64 e, .bool t]

theorem getD_bytes (s : ByteArray) (k : Nat) (h : k < s.size) : s.data.toList.getD k 0 = s[k] := by
  have : k < s.data.toList.length := by simpa using h
  rw [List.getD_eq_getElem?_getD, List.getElem?_eq_getElem this]
  rfl

set_option maxHeartbeats 400000 in
theorem bit_any (a b : Int) (w : World) : Calls Tryd.prog 126 #[.int .i64 a, .int .i64 b] w fun e w' => e = .returned (.bool (bq a b)) ∧ w = w' := by
  go_enter Tryd.func126, Tryd.ntmps126
  go_wp2
  go_ret
  exact ⟨rfl, rfl⟩

set_option maxHeartbeats 400000 in
theorem rplace_any (s : ByteArray) (c e : Int) (t : Bool) (i : Int) (w : World) (hs : s.size ≤ 1000000) (h0 : 0 ≤ i) (h1 : i ≤ s.size) :
    Calls Tryd.prog 124 #[srV s c e t, .int .i64 i] w fun r w' => r = .returned (.int .i64 (srPlace s t i)) ∧ Ext w w' := by
  unfold srV srPlace
  cases t
  all_goals
    go_enter Tryd.func124, Tryd.ntmps124
    go_wp2
    go_ret
    exact ⟨rfl, (Ext.refl w).alloc _⟩

set_option maxHeartbeats 400000 in
theorem rin_any (s : ByteArray) (c e : Int) (t : Bool) (i : Int) (w : World) :
    Calls Tryd.prog 122 #[srV s c e t, .int .i64 i] w fun r w' => r = .returned (.bool (srIn s i)) ∧ Ext w w' := by
  unfold srV srIn
  by_cases h0 : 0 ≤ i
  · go_enter Tryd.func122, Tryd.ntmps122
    go_wp2
    go_ret
    exact ⟨ret_bool (by simp [h0]), (Ext.refl w).alloc _⟩
  · have h0' : decide (0 ≤ i) = false := by simpa using h0
    go_enter Tryd.func122, Tryd.ntmps122
    go_wp2
    go_ret
    exact ⟨ret_bool (by simp), (Ext.refl w).alloc _⟩

set_option maxHeartbeats 1000000 in
theorem rbegin_any (s : ByteArray) (c e : Int) (t : Bool) (i : Int) (w : World) (hs : s.size ≤ 1000000) :
    Calls Tryd.prog 125 #[srV s c e t, .int .i64 i] w fun r w' => r = .returned (.bool (srBegin s c e i)) ∧ Ext w w' := by
  unfold srV
  by_cases h0 : i = 0
  · subst h0
    go_enter Tryd.func125, Tryd.ntmps125
    go_wp2_with (go_at_call 126; refine (bit_any _ _ _).mono ?_; rintro e w' ⟨rfl, rfl⟩)
    go_ret
    exact ⟨ret_bool (by simp [srBegin]), (Ext.refl w).alloc _⟩
  · by_cases h1 : 0 < i
    · by_cases h2 : i ≤ s.size
      · have hs1 : i.toNat - 1 < s.size := by omega
        have hg := getD_bytes s _ hs1
        have hf : srBegin s c e i = (bq c 4 && ((s[i.toNat - 1].toNat : Int) == 10)) := by
          unfold srBegin; rw [if_neg h0, if_pos ⟨h1, h2⟩, hg]
        have Hf := Lib.hid hf; clear hf hg
        have hi1 : (i - 1).toNat = i.toNat - 1 := by omega
        have h1b : decide (0 < i) = true := by simpa using h1
        have h2b : decide (i ≤ (s.size : Int)) = true := by simpa using h2
        cases hb : bq c 4
        · go_enter Tryd.func125, Tryd.ntmps125
          go_wp2_with (go_at_call 126; refine (bit_any _ _ _).mono ?_; rintro e w' ⟨rfl, rfl⟩)
          go_ret
          exact ⟨ret_bool (by rw [Hf.out, hb]; rfl), (Ext.refl w).alloc _⟩
        · go_enter Tryd.func125, Tryd.ntmps125
          go_wp2_with (go_at_call 126; refine (bit_any _ _ _).mono ?_; rintro e w' ⟨rfl, rfl⟩)
          go_ret
          exact ⟨ret_bool (by rw [Hf.out, hb]; rfl), (Ext.refl w).alloc _⟩
      · have hf : srBegin s c e i = false := by
          unfold srBegin; rw [if_neg h0, if_neg (fun h => h2 h.2)]
        have Hf := Lib.hid hf; clear hf
        have h1b : decide (0 < i) = true := by simpa using h1
        have h2b : decide (i ≤ (s.size : Int)) = false := by simpa using h2
        go_enter Tryd.func125, Tryd.ntmps125
        go_wp2_with (go_at_call 126; refine (bit_any _ _ _).mono ?_; rintro e w' ⟨rfl, rfl⟩)
        go_ret
        exact ⟨ret_bool (by rw [Hf.out]), (Ext.refl w).alloc _⟩
    · have hf : srBegin s c e i = false := by
        unfold srBegin; rw [if_neg h0, if_neg (fun h => h1 h.1)]
      have Hf := Lib.hid hf; clear hf
      have h1b : decide (0 < i) = false := by simpa using h1
      go_enter Tryd.func125, Tryd.ntmps125
      go_wp2_with (go_at_call 126; refine (bit_any _ _ _).mono ?_; rintro e w' ⟨rfl, rfl⟩)
      go_ret
      exact ⟨ret_bool (by rw [Hf.out]), (Ext.refl w).alloc _⟩

set_option maxHeartbeats 1000000 in
theorem rend_any (s : ByteArray) (c e : Int) (t : Bool) (i : Int) (w : World) :
    Calls Tryd.prog 123 #[srV s c e t, .int .i64 i] w fun r w' => r = .returned (.bool (srEnd s c e i)) ∧ Ext w w' := by
  unfold srV
  by_cases h0 : i = s.size
  · subst h0
    go_enter Tryd.func123, Tryd.ntmps123
    go_wp2_with (go_at_call 126; refine (bit_any _ _ _).mono ?_; rintro e w' ⟨rfl, rfl⟩)
    go_ret
    exact ⟨ret_bool (by simp [srEnd]), (Ext.refl w).alloc _⟩
  · have h0b : (i == (s.size : Int)) = false := by simpa using h0
    by_cases h1 : 0 ≤ i
    · by_cases h2 : i < s.size
      · have hs1 : i.toNat < s.size := by omega
        have hg := getD_bytes s _ hs1
        have hf : srEnd s c e i = (bq c 4 && ((s[i.toNat].toNat : Int) == 10)) := by
          unfold srEnd; rw [if_neg h0, if_pos ⟨h1, h2⟩, hg]
        have Hf := Lib.hid hf; clear hf hg
        have h1b : decide (0 ≤ i) = true := by simpa using h1
        have h2b : decide (i < (s.size : Int)) = true := by simpa using h2
        cases hb : bq c 4
        · go_enter Tryd.func123, Tryd.ntmps123
          go_wp2_with (go_at_call 126; refine (bit_any _ _ _).mono ?_; rintro e w' ⟨rfl, rfl⟩)
          go_ret
          exact ⟨ret_bool (by rw [Hf.out, hb]; rfl), (Ext.refl w).alloc _⟩
        · go_enter Tryd.func123, Tryd.ntmps123
          go_wp2_with (go_at_call 126; refine (bit_any _ _ _).mono ?_; rintro e w' ⟨rfl, rfl⟩)
          go_ret
          exact ⟨ret_bool (by rw [Hf.out, hb]; rfl), (Ext.refl w).alloc _⟩
      · have hf : srEnd s c e i = false := by
          unfold srEnd; rw [if_neg h0, if_neg (fun h => h2 h.2)]
        have Hf := Lib.hid hf; clear hf
        have h1b : decide (0 ≤ i) = true := by simpa using h1
        have h2b : decide (i < (s.size : Int)) = false := by simpa using h2
        go_enter Tryd.func123, Tryd.ntmps123
        go_wp2_with (go_at_call 126; refine (bit_any _ _ _).mono ?_; rintro e w' ⟨rfl, rfl⟩)
        go_ret
        exact ⟨ret_bool (by rw [Hf.out]), (Ext.refl w).alloc _⟩
    · have hf : srEnd s c e i = false := by
        unfold srEnd; rw [if_neg h0, if_neg (fun h => h1 h.1)]
      have Hf := Lib.hid hf; clear hf
      have h1b : decide (0 ≤ i) = false := by simpa using h1
      go_enter Tryd.func123, Tryd.ntmps123
      go_wp2_with (go_at_call 126; refine (bit_any _ _ _).mono ?_; rintro e w' ⟨rfl, rfl⟩)
      go_ret
      exact ⟨ret_bool (by rw [Hf.out]), (Ext.refl w).alloc _⟩

set_option maxHeartbeats 1000000 in
theorem rBegin_any (s : ByteArray) (c e : Int) (t : Bool) (i : Int) (w : World) (hs : s.size ≤ 1000000) :
    Calls Tryd.prog 120 #[srV s c e t, .int .i64 i] w fun r w' => r = .returned (.bool (srB s c e t i)) ∧ Ext w w' := by
  unfold srV
  cases hin : srIn s i
  · have hf : srB s c e t i = false := by unfold srB; rw [hin]; rfl
    have Hf := Lib.hid hf; clear hf
    go_enter Tryd.func120, Tryd.ntmps120
    go_wp2_with (go_at_call 122; refine (rin_any s c e t i _).mono ?_; rintro e w' ⟨rfl, hx⟩)
    go_ret
    exact ⟨ret_bool (by rw [Hf.out]), ((Ext.refl w).alloc _).trans hx⟩
  · have h0 : 0 ≤ i ∧ i ≤ s.size := by simpa [srIn] using hin
    obtain ⟨h1, h2⟩ := h0
    cases t
    · have hf : srB s c e false i = srBegin s c e i := by unfold srB; rw [hin]; rfl
      have Hf := Lib.hid hf; clear hf
      go_enter Tryd.func120, Tryd.ntmps120
      go_wp2_with (first
        | (go_at_call 122; refine (rin_any s c e false i _).mono ?_; rintro e w1 ⟨rfl, hx⟩; have k4 := box4 hx)
        | (go_at_call 125; refine (rbegin_any s c e false _ _ hs).mono ?_; rintro e w2 ⟨rfl, hx2⟩))
      go_ret
      exact ⟨ret_bool (by rw [Hf.out]), (((Ext.refl w).alloc _).trans hx).trans hx2⟩
    · have hf : srB s c e true i = srEnd s c e (s.size - i) := by unfold srB; rw [hin]; rfl
      have Hf := Lib.hid hf; clear hf
      go_enter Tryd.func120, Tryd.ntmps120
      go_wp2_with (go_at_call 122; refine (rin_any s c e true i _).mono ?_; rintro e w1 ⟨rfl, hx⟩; have k4 := box4 hx)
      have k4p := box4p hx
      clear k4
      refine wp_region_plus (by kernel_rfl) (by kernel_rfl) ?_
      repeat (quiet_step ((first
        | (go_at_call 124; exact Calls.plus_of (rplace_any s c e true i _ hs h1 h2))
        | (go_at_call 123; exact Calls.plus_of (rend_any s c e true _ _)))))
      refine wpQuiet_nil ?_
      intro y
      go_wp2
      go_ret
      exact ⟨ret_bool (by rw [Hf.out]; rfl), (((Ext.refl w).alloc _).trans hx).trans (plus_ext _ y)⟩
set_option maxHeartbeats 1000000 in
theorem rEnd_any (s : ByteArray) (c e : Int) (t : Bool) (i : Int) (w : World) (hs : s.size ≤ 1000000) :
    Calls Tryd.prog 121 #[srV s c e t, .int .i64 i] w fun r w' => r = .returned (.bool (srE s c e t i)) ∧ Ext w w' := by
  unfold srV
  cases hin : srIn s i
  · have hf : srE s c e t i = false := by unfold srE; rw [hin]; rfl
    have Hf := Lib.hid hf; clear hf
    go_enter Tryd.func121, Tryd.ntmps121
    go_wp2_with (go_at_call 122; refine (rin_any s c e t i _).mono ?_; rintro e w' ⟨rfl, hx⟩)
    go_ret
    exact ⟨ret_bool (by rw [Hf.out]), ((Ext.refl w).alloc _).trans hx⟩
  · have h0 : 0 ≤ i ∧ i ≤ s.size := by simpa [srIn] using hin
    obtain ⟨h1, h2⟩ := h0
    cases t
    · have hf : srE s c e false i = srEnd s c e i := by unfold srE; rw [hin]; rfl
      have Hf := Lib.hid hf; clear hf
      go_enter Tryd.func121, Tryd.ntmps121
      go_wp2_with (first
        | (go_at_call 122; refine (rin_any s c e false i _).mono ?_; rintro e w1 ⟨rfl, hx⟩; have k4 := box4 hx)
        | (go_at_call 123; refine (rend_any s c e false _ _).mono ?_; rintro e w2 ⟨rfl, hx2⟩))
      go_ret
      exact ⟨ret_bool (by rw [Hf.out]), (((Ext.refl w).alloc _).trans hx).trans hx2⟩
    · have hf : srE s c e true i = srBegin s c e (s.size - i) := by unfold srE; rw [hin]; rfl
      have Hf := Lib.hid hf; clear hf
      go_enter Tryd.func121, Tryd.ntmps121
      go_wp2_with (go_at_call 122; refine (rin_any s c e true i _).mono ?_; rintro e w1 ⟨rfl, hx⟩; have k4 := box4 hx)
      have k4p := box4p hx
      clear k4
      refine wp_region_plus (by kernel_rfl) (by kernel_rfl) ?_
      repeat (quiet_step ((first
        | (go_at_call 124; exact Calls.plus_of (rplace_any s c e true i _ hs h1 h2))
        | (go_at_call 125; exact Calls.plus_of (rbegin_any s c e true _ _ hs)))))
      refine wpQuiet_nil ?_
      intro y
      go_wp2
      go_ret
      exact ⟨ret_bool (by rw [Hf.out]; rfl), (((Ext.refl w).alloc _).trans hx).trans (plus_ext _ y)⟩

set_option maxHeartbeats 1000000 in
theorem rByte_any (s : ByteArray) (c e : Int) (t : Bool) (i : Int) (w : World) (hs : s.size ≤ 1000000) :
    Calls Tryd.prog 118 #[srV s c e t, .int .i64 i] w fun r w' => r = .returned (.int .i64 (srByte s t i)) ∧ Ext w w' := by
  unfold srV
  by_cases h0 : 0 ≤ i
  · have h0b : decide (i < 0) = false := by simpa using h0
    by_cases h1 : i < s.size
    · have h1b : decide ((s.size : Int) ≤ i) = false := by simpa using h1
      cases t
      · have hs1 : i.toNat < s.size := by omega
        have hf : srByte s false i = (s[i.toNat].toNat : Int) := by
          unfold srByte; rw [if_pos ⟨h0, h1⟩, getD_bytes s _ hs1]; rfl
        have Hf := Lib.hid hf; clear hf
        go_enter Tryd.func118, Tryd.ntmps118
        go_wp2
        go_ret
        exact ⟨ret_int (by rw [Hf.out]; exact wrap64_b _), (Ext.refl w).alloc _⟩
      · have hs1 : s.size - 1 - i.toNat < s.size := by omega
        have hi1 : ((s.size : Int) - 1 - i).toNat = s.size - 1 - i.toNat := by omega
        have hi2 : (0 : Int) ≤ (s.size : Int) - 1 - i := by omega
        have hi3 : (s.size : Int) - 1 - i < s.size := by omega
        have hf : srByte s true i = (s[s.size - 1 - i.toNat].toNat : Int) := by
          unfold srByte; rw [if_pos ⟨h0, h1⟩, getD_bytes s _ hs1]; rfl
        have Hf := Lib.hid hf; clear hf
        go_enter Tryd.func118, Tryd.ntmps118
        go_wp2
        go_ret
        exact ⟨ret_int (by rw [Hf.out]; exact wrap64_b _), (Ext.refl w).alloc _⟩
    · have h1b : decide ((s.size : Int) ≤ i) = true := by simp; omega
      have hf : srByte s t i = -1 := by unfold srByte; rw [if_neg (fun h => h1 h.2)]
      have Hf := Lib.hid hf; clear hf
      go_enter Tryd.func118, Tryd.ntmps118
      go_wp2
      go_ret
      exact ⟨ret_int (by rw [Hf.out]), (Ext.refl w).alloc _⟩
  · have h0b : decide (i < 0) = true := by simp; omega
    have hf : srByte s t i = -1 := by unfold srByte; rw [if_neg (fun h => h0 h.1)]
    have Hf := Lib.hid hf; clear hf
    go_enter Tryd.func118, Tryd.ntmps118
    go_wp2
    go_ret
    exact ⟨ret_int (by rw [Hf.out]), (Ext.refl w).alloc _⟩

end Go.Proofs.YthddlhpndaffjaaDoor
