/- The other case of a letter and the bytes of words: the program's and the reference's functions as contracts. Bytes below 256. -/
import Derived.Test.YteahmkhmkalimaaDoorNamedRef
namespace Go.Proofs.YteahmkhmkalimaaDoor
open Go.RowKit

/-- The other case of a letter. -/
def otherB (b : Nat) : Nat := if upperB b = true then b + 32 else if lowerB b = true then b - 32 else b
def wordB (b : Nat) : Bool := b == 95 || alnumB b
theorem other_bits : ∀ x : Fin 256, (decide (97 ≤ (x.val ||| 32)) && decide ((x.val ||| 32) ≤ 122)) = (upperB x.val || lowerB x.val) ∧ ((upperB x.val || lowerB x.val) = true → x.val ^^^ 32 = otherB x.val) ∧ otherB x.val < 256 ∧ (x.val ||| 32) < 256 ∧ (x.val ^^^ 32) < 256 := by decide +kernel
theorem other_none {b : Nat} (h1 : upperB b = false) (h2 : lowerB b = false) : otherB b = b := by unfold otherB; rw [h1, h2]; rfl
theorem xor_b (b : Nat) (hb : b < 256) : bits .xor .u8 (b : Int) 32 = ((b ^^^ 32 : Nat) : Int) := u8_xor_nat b 32 hb (by decide)
theorem or_b (b : Nat) (hb : b < 256) : bits .or .u8 (b : Int) 32 = ((b ||| 32 : Nat) : Int) := u8_or_nat b 32 hb (by decide)

set_option maxHeartbeats 1000000 in
theorem other_any (b : Nat) (w : World) (hb : b < 256) :
    Calls Tryd.prog 29 #[.int .u8 (b : Int)] w fun r w' => r = .returned (.int .u8 (otherB b : Int)) ∧ w = w' := by
  obtain ⟨h1, h2, h3, h4, h5⟩ := other_bits ⟨b, hb⟩
  simp only at h1 h2 h3 h4 h5
  have ho := or_b b hb
  have hx := xor_b b hb
  have HU := Lib.hid h2
  have HO := Lib.hid (fun h1 h2 => other_none (b := b) h1 h2)
  generalize b ||| 32 = o at *
  generalize b ^^^ 32 = x at *
  generalize hu : upperB b = u at *
  generalize hl : lowerB b = l at *
  clear hu hl h2
  by_cases h6 : 97 ≤ o
  · by_cases h7 : o ≤ 122
    · have he : x = otherB b := HU.out (by rw [← h1]; simp [h6, h7])
      have HE := Lib.hid he
      clear he h1 HU HO
      go_enter Tryd.func29, Tryd.ntmps29
      go_wp2
      go_ret
      exact ⟨by rw [← HE.out]; rfl, rfl⟩
    · have hz : (u || l) = false := by rw [← h1]; simp [h7]
      have he : otherB b = b := HO.out (by cases u <;> simp_all) (by cases l <;> simp_all)
      have HE := Lib.hid he
      clear he h1 HU HO hz
      go_enter Tryd.func29, Tryd.ntmps29
      go_wp2
      go_ret
      exact ⟨by rw [HE.out]; rfl, rfl⟩
  · have hz : (u || l) = false := by rw [← h1]; simp [h6]
    have he : otherB b = b := HO.out (by cases u <;> simp_all) (by cases l <;> simp_all)
    have HE := Lib.hid he
    clear he h1 HU HO hz
    go_enter Tryd.func29, Tryd.ntmps29
    go_wp2
    go_ret
    exact ⟨by rw [HE.out]; rfl, rfl⟩

set_option maxHeartbeats 1000000 in
theorem rOther_any (b : Nat) (w : World) (hb : b < 256) :
    Calls Tryd.prog 33 #[.int .u8 (b : Int)] w fun r w' => r = .returned (.int .u8 (otherB b : Int)) ∧ w = w' := by
  have HU := Lib.hid (fun W => member_upper b W)
  have HL := Lib.hid (fun W => member_lower b W)
  cases hu : upperB b with
  | true =>
    have he : otherB b = b + 32 := by unfold otherB; rw [if_pos hu]
    have hle : b ≤ 90 := by unfold upperB rangeB at hu; simp at hu; omega
    rw [hu] at HU
    have HE := Lib.hid he
    clear he hu HL
    go_enter Tryd.func33, Tryd.ntmps33
    go_wp2_with (go_at_call 45; ((with_reducible refine (HU.out _).mono ?_); rintro e w2 ⟨rfl, rfl⟩))
    go_ret
    exact ⟨by rw [HE.out]; go_num, rfl⟩
  | false =>
    rw [hu] at HU
    cases hl : lowerB b with
    | true =>
      have he : otherB b = b - 32 := by unfold otherB; rw [hu, hl]; rfl
      have hge : 97 ≤ b := by unfold lowerB rangeB at hl; simp at hl; omega
      rw [hl] at HL
      have HE := Lib.hid he
      clear he hu hl
      go_enter Tryd.func33, Tryd.ntmps33
      go_wp2_with (first
        | (go_at_call 45; ((with_reducible refine (HU.out _).mono ?_); rintro e w2 ⟨rfl, rfl⟩))
        | (go_at_call 45; ((with_reducible refine (HL.out _).mono ?_); rintro e w2 ⟨rfl, rfl⟩)))
      go_ret
      exact ⟨by rw [HE.out]; go_num, rfl⟩
    | false =>
      have HE := Lib.hid (other_none hu hl)
      rw [hl] at HL
      clear hu hl
      go_enter Tryd.func33, Tryd.ntmps33
      go_wp2_with (first
        | (go_at_call 45; ((with_reducible refine (HU.out _).mono ?_); rintro e w2 ⟨rfl, rfl⟩))
        | (go_at_call 45; ((with_reducible refine (HL.out _).mono ?_); rintro e w2 ⟨rfl, rfl⟩)))
      go_ret
      exact ⟨by rw [HE.out]; rfl, rfl⟩

set_option maxHeartbeats 1000000 in
theorem rWord_any (b : Nat) (w : World) (hb : b < 256) :
    Calls Tryd.prog 34 #[.int .u8 (b : Int)] w fun r w' => r = .returned (.bool (wordB b)) ∧ w = w' := by
  have HA := Lib.hid (fun W => member_alnum b W)
  unfold wordB
  have e : ((b : Int) == 95) = (b == 95) := by rw [Bool.eq_iff_iff, beq_iff_eq, beq_iff_eq]; omega
  generalize alnumB b = v at *
  generalize (b == 95) = q at *
  cases q
  all_goals
    go_enter Tryd.func34, Tryd.ntmps34
    go_wp2_with (go_at_call 45; ((with_reducible refine (HA.out _).mono ?_); rintro e w2 ⟨rfl, rfl⟩))
    go_ret
    exact ⟨by simp, rfl⟩

theorem word_bits : ∀ x : Fin 256, wordB x.val = (x.val == 95 || (decide (48 ≤ x.val) && decide (x.val ≤ 57)) || !(otherB x.val == x.val)) := by decide +kernel
set_option maxHeartbeats 1000000 in
theorem word_any (b : Nat) (w : World) (hb : b < 256) :
    Calls Tryd.prog 30 #[.int .u8 (b : Int)] w fun r w' => r = .returned (.bool (wordB b)) ∧ w = w' := by
  have HO := Lib.hid (fun W => other_any b W hb)
  have hw := word_bits ⟨b, hb⟩
  simp only at hw
  rw [hw]
  clear hw
  have e : ((b : Int) == 95) = (b == 95) := by rw [Bool.eq_iff_iff, beq_iff_eq, beq_iff_eq]; omega
  have e2 : ((otherB b : Int) != (b : Int)) = !(otherB b == b) := by
    rw [Bool.eq_iff_iff]
    simp
    omega
  have d1 : decide ((48 : Int) ≤ (b : Int)) = decide (48 ≤ b) := by rw [decide_eq_decide]; omega
  have d2 : decide ((b : Int) ≤ 57) = decide (b ≤ 57) := by rw [decide_eq_decide]; omega
  generalize otherB b = o at *
  generalize (o == b) = v at *
  generalize (b == 95) = q at *
  by_cases h1 : 48 ≤ b
  · by_cases h2 : b ≤ 57
    · have g1 : decide (48 ≤ b) = true := by simpa using h1
      have g2 : decide (b ≤ 57) = true := by simpa using h2
      rw [g1] at d1 ⊢
      rw [g2] at d2 ⊢
      clear g1 g2
      cases q
      all_goals
        go_enter Tryd.func30, Tryd.ntmps30
        go_wp2_with (go_at_call 29; ((with_reducible refine (HO.out _).mono ?_); rintro e w2 ⟨rfl, rfl⟩))
        go_ret
        exact ⟨by simp, rfl⟩
    · have g1 : decide (48 ≤ b) = true := by simpa using h1
      have g2 : decide (b ≤ 57) = false := by simpa using h2
      rw [g1] at d1 ⊢
      rw [g2] at d2 ⊢
      clear g1 g2
      cases q
      all_goals
        go_enter Tryd.func30, Tryd.ntmps30
        go_wp2_with (go_at_call 29; ((with_reducible refine (HO.out _).mono ?_); rintro e w2 ⟨rfl, rfl⟩))
        go_ret
        exact ⟨by simp, rfl⟩
  · have g1 : decide (48 ≤ b) = false := by simpa using h1
    rw [g1] at d1 ⊢
    clear g1 d2
    cases q
    all_goals
      go_enter Tryd.func30, Tryd.ntmps30
      go_wp2_with (go_at_call 29; ((with_reducible refine (HO.out _).mono ?_); rintro e w2 ⟨rfl, rfl⟩))
      go_ret
      exact ⟨by simp, rfl⟩

end Go.Proofs.YteahmkhmkalimaaDoor
