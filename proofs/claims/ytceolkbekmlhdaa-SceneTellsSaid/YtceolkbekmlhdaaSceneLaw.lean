/- The three laws of the scenes: each call returns true and leaves a world that extends the one it got. For every subject, flags and place. -/
import Derived.Test.YtceolkbekmlhdaaScenePlain
import Derived.Deep.RegionHeld3
namespace Go.Proofs.Ytceolkbekmlhdaa
open Go.RowKit

set_option maxHeartbeats 2000000 in
theorem sceneLives_any (w : World) : Calls Try.prog 10 #[] w fun r w' => r = .returned (.bool true) ∧ Ext w w' := by
  have e1 : sBegin (mkAt ⟨#[97, 10, 98]⟩ 4 3 3) 2 = true := by decide +kernel
  have e2 : sEnd (mkAt ⟨#[97, 10, 98]⟩ 4 3 3) 1 = true := by decide +kernel
  have e3 : sBegin (mkAt ⟨#[97, 10, 98]⟩ 4 3 3) 0 = false := by decide +kernel
  have e4 : sMark (mkAt ⟨#[97, 10, 98]⟩ 4 3 3) 3 = 0 := by decide +kernel
  have hn := fun W => new_any ⟨#[97, 10, 98]⟩ 4 3 W (by decide)
  have hsz : (⟨#[97, 10, 98]⟩ : ByteArray).size = 3 := rfl
  rw [hsz] at hn
  have hln : (mkAt ⟨#[97, 10, 98]⟩ 4 3 3).length ≤ 10000000 := by rw [mkAt_len]; decide
  generalize mkAt ⟨#[97, 10, 98]⟩ 4 3 3 = m at *
  have HN := Lib.hid hn; clear hn
  have HB2 := Lib.hid (fun p W => begin_any p ⟨#[97, 10, 98]⟩ m 2 W hln)
  have HB0 := Lib.hid (fun p W => begin_any p ⟨#[97, 10, 98]⟩ m 0 W hln)
  have HE := Lib.hid (fun p W => end_any p ⟨#[97, 10, 98]⟩ m 1 W hln)
  have HM := Lib.hid (fun p W => marks_any p ⟨#[97, 10, 98]⟩ m 3 W hln)
  have HL := Lib.hid (fun p W => len_any p ⟨#[97, 10, 98]⟩ m W)
  rw [e1] at HB2
  rw [e2] at HE
  rw [e3] at HB0
  rw [e4] at HM
  rw [hsz] at HL
  clear e1 e2 e3 e4 hsz hln
  go_enter Try.func10, Try.ntmps10
  go_wp2_with (first
    | (go_at_call 11; refine (HN.out _).mono ?_; rintro e w1 ⟨⟨p, rfl, hs⟩, hx⟩; obtain ⟨g, g', rfl, hg⟩ := id hs; clear hg)
    | (go_at_call 27; refine (HL.out _ _ hs).mono ?_; rintro e w2 ⟨rfl, rfl⟩)
    | (go_at_call 13; ((with_reducible refine (HB2.out _ _ hs).mono ?_); rintro e w2 ⟨rfl, rfl⟩))
    | (go_at_call 13; ((with_reducible refine (HB0.out _ _ hs).mono ?_); rintro e w2 ⟨rfl, rfl⟩))
    | (go_at_call 14; refine (HE.out _ _ hs).mono ?_; rintro e w2 ⟨rfl, rfl⟩)
    | (go_at_call 12; refine (HM.out _ _ hs).mono ?_; rintro e w2 ⟨rfl, rfl⟩))
  go_ret
  exact ⟨rfl, hx⟩

set_option maxHeartbeats 2000000 in
theorem sceneTells_walk (s : ByteArray) (c e i : Int) (_w0 : s.size ≤ maxLen) (_w1 : (Lit.int .i64 c).wf = true) (_w2 : (Lit.int .i64 e).wf = true) (_w3 : (Lit.int .i64 i).wf = true) (w : World) :
    Calls Try.prog 4 #[.string s, .int .i64 c, .int .i64 e, .int .i64 i] w fun r w' => r = .returned (.bool true) ∧ Ext w w' := by
  by_cases hs : s.size ≤ 100000
  · have hsb : ¬ (100000 < (s.size : Int)) := by omega
    have HN := Lib.hid (fun W => new_any s c e W (by omega))
    have HS := Lib.hid (fun p W h => same_any p s (mkAt s c e s.size) s c e false i W (by omega) (by rw [mkAt_len]; omega) h (new_tells s c e) rfl (srText_false s))
    unfold srV at HS
    go_enter Try.func4, Try.ntmps4
    go_wp2_with (first
      | (go_at_call 10; refine (sceneLives_any _).mono ?_; rintro e w1 ⟨rfl, hx1⟩)
      | (go_at_call 11; refine (HN.out _).mono ?_; rintro e w2 ⟨⟨p, rfl, hsc⟩, hx2⟩)
      | (go_at_call 15; refine (HS.out _ _ hsc).mono ?_; rintro e w3 ⟨rfl, hx3⟩))
    go_ret
    exact ⟨rfl, (hx1.trans hx2).trans hx3⟩
  · have hsb : 100000 < (s.size : Int) := by omega
    go_enter Try.func4, Try.ntmps4
    go_wp2_with (go_at_call 10; refine (sceneLives_any _).mono ?_; rintro e w1 ⟨rfl, hx1⟩)
    go_ret
    exact ⟨rfl, hx1⟩

set_option maxHeartbeats 4000000 in
theorem sceneTurns_walk (s : ByteArray) (c e i : Int) (_w0 : s.size ≤ maxLen) (_w1 : (Lit.int .i64 c).wf = true) (_w2 : (Lit.int .i64 e).wf = true) (_w3 : (Lit.int .i64 i).wf = true) (w : World) :
    Calls Try.prog 5 #[.string s, .int .i64 c, .int .i64 e, .int .i64 i] w fun r w' => r = .returned (.bool true) ∧ Ext w w' := by
  by_cases hs : s.size ≤ 100000
  · have hsb : ¬ (100000 < (s.size : Int)) := by omega
    have HN := Lib.hid (fun W => new_any s c e W (by omega))
    have HS := Lib.hid (fun p W h => same_any p s (mkAt s c e s.size) s c e false i W (by omega) (by rw [mkAt_len]; omega) h (new_tells s c e) rfl (srText_false s))
    have HY := Lib.hid (fun p W h => same_any p (turnS s) (turnM (mkAt s c e s.size)) s c e true i W (by omega) (by rw [turnM_len, mkAt_len]; omega) h (turn_tells s c e) (turnS_size s) (srText_true s))
    have HT := Lib.hid (fun p W h => turned_any p s (mkAt s c e s.size) W (by omega) (mkAt_len s c e s.size) h)
    have htt := fun p W h => turned_any p (turnS s) (turnM (mkAt s c e s.size)) W (by rw [turnS_size]; omega) (by rw [turnM_len, mkAt_len, turnS_size]) h
    rw [turnS_turnS, turnM_turnM] at htt
    have HTT := Lib.hid htt; clear htt
    unfold srV at *
    go_enter Try.func5, Try.ntmps5
    go_upto_region 6 with (first
      | (go_at_call 10; refine (sceneLives_any _).mono ?_; rintro e w1 ⟨rfl, hx1⟩)
      | (go_at_call 11; refine (HN.out _).mono ?_; rintro e w2 ⟨⟨p, rfl, hsc⟩, hx2⟩; obtain ⟨g, g', rfl, hg⟩ := id hsc; clear hg))
    go_cut [10] (fun q wx => ∃ gw, q = .pointer (some ⟨gw, 0, none⟩) ∧ Blk wx gw 30 #[.string s, .int .i64 c, .int .i64 e, .bool false] ∧ Ext w2 wx)
    case first =>
      go_wp2
      go_meet
      case rel =>
        exact ⟨_, rfl, Blk.new w2 _ _, (Ext.refl w2).alloc _⟩
    case rest =>
      obtain ⟨gw, rfl, hw, hx3⟩ := hcut
      have hsc3 := hsc.ext hx3
      have hx := (hx1.trans hx2).trans hx3
      clear hsc hx1 hx2 hx3
      go_wp2_with (first
        | (go_at_call 16; refine (HT.out _ _ hsc3).mono ?_; rintro e w4 ⟨⟨p, rfl, hsy⟩, hx4⟩; obtain ⟨gy, gy', rfl, hg⟩ := id hsy; clear hg)
        | (go_at_call 15; refine (HY.out _ _ hsy).mono ?_; rintro e w5 ⟨rfl, hx5⟩))
      have hw5 := (hw.ext hx4).ext hx5
      have hsc5 := (hsc3.ext hx4).ext hx5
      have hsy5 := hsy.ext hx5
      have hx' := (hx.trans hx4).trans hx5
      clear hw hsc3 hsy hx hx4 hx5
      go_region_held3 (fun w' => Ext w5 w' ∧ w'.cell? ⟨gw, 0, none⟩ = some (.string s) ∧ w'.cell? ⟨gw, 1, none⟩ = some (.int .i64 c) ∧ w'.cell? ⟨gw, 2, none⟩ = some (.int .i64 e) ∧ w'.cell? ⟨gw, 3, none⟩ = some (.bool false))
        ((exact keep4 hw5 (by first | exact (Ext.refl _).drew | assumption)))
        (first
          | (go_at_call 16; refine (HTT.out _ _ (hsy5.ext (Ext.refl w5).drew)).mono ?_; rintro e w6 ⟨⟨q, rfl, hsq⟩, hx6⟩; have hX6 : Ext w5 w6 := (Ext.refl w5).drew.trans hx6)
          | (go_at_call 15; ((with_reducible refine (HS.out _ _ hsq).mono ?_); rintro e w7 ⟨rfl, hx7⟩; have hX7 : Ext w5 w7 := hX6.trans hx7))
          | (go_at_call 15; ((with_reducible refine (HS.out _ _ (hsc5.ext hX7)).mono ?_); rintro e w8 ⟨rfl, hx8⟩; have hX8 : Ext w5 w8 := hX7.trans hx8)))
      all_goals
        go_wp2
        go_ret
        exact ⟨rfl, hx'.trans hX8⟩
  · have hsb : 100000 < (s.size : Int) := by omega
    go_enter Try.func5, Try.ntmps5
    go_wp2_with (go_at_call 10; refine (sceneLives_any _).mono ?_; rintro e w1 ⟨rfl, hx1⟩)
    go_ret
    exact ⟨rfl, hx1⟩

/-! ### other flags change nothing -/
theorem bv_back (x : BitVec 64) : BitVec.ofInt 64 (IntKind.i64.wrap (x.toNat : Int)) = x := by
  apply BitVec.eq_of_toNat_eq
  have hx := x.isLt
  rw [BitVec.toNat_ofInt, IntKind.wrap_i64]
  omega
theorem and_and (a b c : Int) : bits .and .i64 (bits .and .i64 a b) c = IntKind.i64.wrap (((BitVec.ofInt 64 a &&& (BitVec.ofInt 64 b &&& BitVec.ofInt 64 c)).toNat : Nat) : Int) := by
  show IntKind.i64.wrap (((BitVec.ofInt 64 (IntKind.i64.wrap ((BitVec.ofInt 64 a &&& BitVec.ofInt 64 b).toNat : Int)) &&& BitVec.ofInt 64 c).toNat : Nat) : Int) = _
  rw [bv_back, BitVec.and_assoc]
theorem and44 (c : Int) : bits .and .i64 (bits .and .i64 c 4) 4 = bits .and .i64 c 4 := by rw [and_and]; rfl
theorem and31 (e : Int) : bits .and .i64 (bits .and .i64 e 3) 1 = bits .and .i64 e 1 := by rw [and_and]; rfl
theorem and32 (e : Int) : bits .and .i64 (bits .and .i64 e 3) 2 = bits .and .i64 e 2 := by rw [and_and]; rfl
theorem andNot4 (c : Int) : bits .and .i64 (bits .andNot .i64 c 4) 4 = 0 := by
  show IntKind.i64.wrap (((BitVec.ofInt 64 (IntKind.i64.wrap ((BitVec.ofInt 64 c &&& ~~~BitVec.ofInt 64 4).toNat : Int)) &&& BitVec.ofInt 64 4).toNat : Nat) : Int) = _
  rw [bv_back, BitVec.and_assoc]
  have : (~~~BitVec.ofInt 64 4 &&& BitVec.ofInt 64 4) = 0#64 := by decide
  rw [this]
  simp
  decide

theorem mkAt_flags (s : ByteArray) (c e : Int) (k : Nat) : mkAt s (bits .and .i64 c 4) (bits .and .i64 e 3) k = mkAt s c e k := by
  unfold mkAt mB mE
  rw [and44, and31, and32]

theorem plain_begin (s : ByteArray) (c e : Int) (k : Nat) (h : k ≤ s.size) :
    sBegin (mkAt s (bits .andNot .i64 c 4) e s.size) k = (((k : Int) == 0) && (bits .and .i64 e 1 == 0)) := by
  have h1 := (marks_tell (mkAt s (bits .andNot .i64 c 4) e s.size) s (bits .andNot .i64 c 4) e false (by simp) (new_marks s _ e) k).2.1
  rw [h1]
  unfold srB
  rw [srIn_nat s k h]
  simp only [↓reduceIte, Bool.false_eq_true]
  rw [mB_sr s _ e k h]
  unfold mB
  rw [andNot4]
  have : ((k : Int) == 0) = (k == 0) := by rw [Bool.eq_iff_iff, beq_iff_eq, beq_iff_eq]; omega
  rw [this]
  simp
theorem plain_end (s : ByteArray) (c e : Int) (k : Nat) (h : k ≤ s.size) :
    sEnd (mkAt s (bits .andNot .i64 c 4) e s.size) k = (((k : Int) == (s.size : Int)) && (bits .and .i64 e 2 == 0)) := by
  have h1 := (marks_tell (mkAt s (bits .andNot .i64 c 4) e s.size) s (bits .andNot .i64 c 4) e false (by simp) (new_marks s _ e) k).2.2
  rw [h1]
  unfold srE
  rw [srIn_nat s k h]
  simp only [↓reduceIte, Bool.false_eq_true]
  rw [mE_sr s _ e k h]
  unfold mE
  rw [andNot4]
  have : ((k : Int) == (s.size : Int)) = (k == s.size) := by rw [Bool.eq_iff_iff, beq_iff_eq, beq_iff_eq]; omega
  rw [this]
  simp
theorem line_ends (s : ByteArray) (c e : Int) (k : Nat) (h : k < s.size) (hc : (bits .and .i64 c 4 == 0) = false) (hb : s.data.toList.getD k 0 = 10) :
    sEnd (mkAt s c e s.size) k = true ∧ sBegin (mkAt s c e s.size) ((k : Int) + 1) = true := by
  have hb' : (s.data.toList.getD k 0 == 10) = true := by rw [hb]; rfl
  have h1 := (marks_tell (mkAt s c e s.size) s c e false (by simp) (new_marks s c e) k).2.2
  have h2 := (marks_tell (mkAt s c e s.size) s c e false (by simp) (new_marks s c e) ((k + 1 : Nat) : Int)).2.1
  have e1 : ((k + 1 : Nat) : Int) = (k : Int) + 1 := by omega
  rw [← e1, h1, h2]
  unfold srB srE
  rw [srIn_nat s k (by omega), srIn_nat s (k + 1) (by omega)]
  simp only [↓reduceIte, Bool.false_eq_true]
  rw [mE_sr s c e k (by omega), mB_sr s c e (k + 1) (by omega)]
  unfold mB mE
  have d1 : decide (k < s.size) = true := by simpa using h
  have d2 : decide (0 < k + 1 ∧ k + 1 ≤ s.size) = true := by simp; omega
  rw [hc, d1, d2, Nat.add_sub_cancel, hb']
  simp

set_option maxRecDepth 100000 in
set_option maxHeartbeats 8000000 in
theorem sceneFlags_walk (s : ByteArray) (c e : Int) (_w0 : s.size ≤ maxLen) (_w1 : (Lit.int .i64 c).wf = true) (_w2 : (Lit.int .i64 e).wf = true) (w : World) :
    Calls Try.prog 3 #[.string s, .int .i64 c, .int .i64 e] w fun r w' => r = .returned (.bool true) ∧ Ext w w' := by
  by_cases hs : s.size ≤ 100000
  · have hsb : ¬ (100000 < (s.size : Int)) := by omega
    have HN := Lib.hid (fun W => new_any s c e W (by omega))
    have hn2 := fun W => new_any s (bits .and .i64 c 4) (bits .and .i64 e 3) W (by omega)
    rw [mkAt_flags] at hn2
    have HN2 := Lib.hid hn2; clear hn2
    have HN3 := Lib.hid (fun W => new_any s (bits .andNot .i64 c 4) e W (by omega))
    have hlm : (mkAt s c e s.size).length ≤ 10000000 := by rw [mkAt_len]; omega
    have hlp : (mkAt s (bits .andNot .i64 c 4) e s.size).length ≤ 10000000 := by rw [mkAt_len]; omega
    have HPB := Lib.hid (fun p k W => begin_any p s (mkAt s (bits .andNot .i64 c 4) e s.size) k W hlp)
    have HPE := Lib.hid (fun p k W => end_any p s (mkAt s (bits .andNot .i64 c 4) e s.size) k W hlp)
    have HB := Lib.hid (fun p k W => begin_any p s (mkAt s c e s.size) k W hlm)
    have HE := Lib.hid (fun p k W => end_any p s (mkAt s c e s.size) k W hlm)
    have HM := Lib.hid (fun p k W => marks_any p s (mkAt s c e s.size) k W hlm)
    have PB := Lib.hid (plain_begin s c e)
    have PE := Lib.hid (plain_end s c e)
    have LE := Lib.hid (line_ends s c e)
    clear hlm hlp
    generalize mkAt s c e s.size = m at *
    generalize mkAt s (bits .andNot .i64 c 4) e s.size = mp at *
    go_enter Try.func3, Try.ntmps3
    go_wp2_with (first
      | (go_at_call 10; refine (sceneLives_any _).mono ?_; rintro e w1 ⟨rfl, hx1⟩)
      | (go_at_call 11; ((with_reducible refine (HN.out _).mono ?_); rintro e w2 ⟨⟨p, rfl, hsx⟩, hx2⟩; obtain ⟨gx, gx', rfl, hg⟩ := id hsx; clear hg))
      | (go_at_call 11; ((with_reducible refine (HN2.out _).mono ?_); rintro e w3 ⟨⟨p, rfl, hsy⟩, hx3⟩; obtain ⟨gy, gy', rfl, hg⟩ := id hsy; clear hg))
      | (go_at_call 11; ((with_reducible refine (HN3.out _).mono ?_); rintro e w4 ⟨⟨p, rfl, hsp⟩, hx4⟩; obtain ⟨gp, gp', rfl, hg⟩ := id hsp; clear hg)))
    have hxx := ((hx1.trans hx2).trans hx3).trans hx4
    replace hsx := (hsx.ext hx3).ext hx4
    replace hsy := hsy.ext hx4
    clear hx1 hx2 hx3 hx4
    go_loop [10] (fun i => ∃ k : Nat, k ≤ s.size + 1 ∧ i = .int .i64 k) (fun i => s.size + 1 - (intOf i).toNat)
    case atStart => exact ⟨0, Nat.zero_le _, rfl⟩
    case round =>
      obtain ⟨k, hk, rfl⟩ := hrel
      by_cases hlt : k ≤ s.size
      · have hpb := PB.out k hlt
        have hpe := PE.out k hlt
        go_upto_region 12 with fail
        go_cut [81] (fun t wx => t = .bool false ∧ wx = w4)
        case first =>
          cases h1 : ((k : Int) == 0)
          all_goals
            cases h2 : (bits .and .i64 e 1 == 0)
            all_goals
              cases h3 : ((k : Int) == (s.size : Int))
              all_goals
                cases h4 : (bits .and .i64 e 2 == 0)
                all_goals
                  have hpb' := hpb
                  have hpe' := hpe
                  rw [h1, h2] at hpb'
                  rw [h3, h4] at hpe'
                  first | rw [Bool.and_true] at hpb' | rw [Bool.and_false] at hpb'
                  first | rw [Bool.and_true] at hpe' | rw [Bool.and_false] at hpe'
                  have pb := fun p W => HPB.out p k W
                  have pe := fun p W => HPE.out p k W
                  rw [hpb'] at pb
                  rw [hpe'] at pe
                  have PB1 := Lib.hid pb
                  have PE1 := Lib.hid pe
                  clear hpb' hpe' pb pe hpb hpe
                  go_wp2_with (first
                    | (go_at_call 12; ((with_reducible refine (HM.out _ _ _ hsx).mono ?_); rintro e w5 ⟨rfl, rfl⟩))
                    | (go_at_call 12; ((with_reducible refine (HM.out _ _ _ hsy).mono ?_); rintro e w5 ⟨rfl, rfl⟩))
                    | (go_at_call 13; ((with_reducible refine (PB1.out _ _ hsp).mono ?_); rintro e w5 ⟨rfl, rfl⟩))
                    | (go_at_call 14; ((with_reducible refine (PE1.out _ _ hsp).mono ?_); rintro e w5 ⟨rfl, rfl⟩)))
                  go_meet
                  case rel => exact ⟨rfl, rfl⟩
        case rest =>
          obtain ⟨rfl, rfl⟩ := hcut
          by_cases hlt2 : k < s.size
          · have h2b : decide ((k : Int) < (s.size : Int)) = true := by simpa using hlt2
            cases h4 : (bits .and .i64 c 4 == 0)
            · have h4b : (bits .and .i64 c 4 != 0) = true := by simpa using h4
              by_cases hb : s[k].toNat = 10
              · have hb3 : ((s[k].toNat : Int) == 10) = true := by rw [hb]; rfl
                have hle := LE.out k hlt2 h4 (by rw [getD_byte s k hlt2]; exact UInt8.toNat_inj.1 hb)
                have he := fun p W => HE.out p k W
                have hbb := fun p W => HB.out p ((k : Int) + 1) W
                rw [hle.1] at he
                rw [hle.2] at hbb
                have HE1 := Lib.hid he
                have HB1 := Lib.hid hbb
                clear hle he hbb hb hpb hpe h4
                go_wp2_with (first
                  | (go_at_call 13; ((with_reducible refine (HB1.out _ _ hsx).mono ?_); rintro e w5 ⟨rfl, rfl⟩))
                  | (go_at_call 14; ((with_reducible refine (HE1.out _ _ hsx).mono ?_); rintro e w5 ⟨rfl, rfl⟩)))
                go_round
                case rel => exact ⟨k + 1, by omega, by go_num⟩
                case measure => simp [intOf]; omega
              · have hb3 : ((s[k].toNat : Int) == 10) = false := by rw [beq_eq_false_iff_ne]; omega
                clear hb hpb hpe h4
                go_wp2_with fail
                go_round
                case rel => exact ⟨k + 1, by omega, by go_num⟩
                case measure => simp [intOf]; omega
            · have h4b : (bits .and .i64 c 4 != 0) = false := by simpa using h4
              clear hpb hpe h4
              go_wp2_with fail
              go_round
              case rel => exact ⟨k + 1, by omega, by go_num⟩
              case measure => simp [intOf]; omega
          · have h2b : decide ((k : Int) < (s.size : Int)) = false := by simpa using hlt2
            clear hpb hpe
            go_wp2_with fail
            go_round
            case rel => exact ⟨k + 1, by omega, by go_num⟩
            case measure => simp [intOf]; omega
      · go_wp2
        go_ret
        exact ⟨rfl, hxx⟩
  · have hsb : 100000 < (s.size : Int) := by omega
    go_enter Try.func3, Try.ntmps3
    go_wp2_with (go_at_call 10; refine (sceneLives_any _).mono ?_; rintro e w1 ⟨rfl, hx1⟩)
    go_ret
    exact ⟨rfl, hx1⟩

end Go.Proofs.Ytceolkbekmlhdaa
