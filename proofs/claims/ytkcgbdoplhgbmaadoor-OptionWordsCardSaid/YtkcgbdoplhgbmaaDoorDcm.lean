/- trawlref03.Decimal: a number in digits. No condition. -/
import Derived.Test.YtkcgbdoplhgbmaaDoorBytes
import Derived.Lib.ItoaNum
import Derived.Lib.ItoaLen
namespace Go.Proofs.YtkcgbdoplhgbmaaDoor
open Go Go.RowKit

def dgt (u : Nat) : List UInt8 := [UInt8.ofNat (48 + u % 10)]
theorem dec_small (u : Nat) (h : u / 10 = 0) : Lib.decDigits u = dgt u := by
  rw [Lib.decDigits, dif_pos (by omega)]
  unfold dgt
  rw [Nat.mod_eq_of_lt (by omega)]
theorem dec_big (u : Nat) (h : u / 10 ≠ 0) : Lib.decDigits u = Lib.decDigits (u / 10) ++ dgt u := by
  conv => lhs; rw [Lib.decDigits, dif_neg (by omega)]
  rfl

theorem td_neg (t : Int) (h : t < 0) : t.tdiv 10 = -((-t) / 10) ∧ t.tmod 10 = -((-t) % 10) := by
  obtain ⟨u, rfl⟩ : ∃ u : Nat, t = -(u : Int) := ⟨t.natAbs, by omega⟩
  rw [Int.neg_tdiv, Int.neg_tmod, Int.tdiv_eq_ediv_of_nonneg (by omega), Int.tmod_eq_emod_of_nonneg (by omega)]
  simp
theorem td_pos (t : Int) (h : ¬ t < 0) : t.tdiv 10 = t / 10 ∧ t.tmod 10 = t % 10 :=
  ⟨Int.tdiv_eq_ediv_of_nonneg (by omega), Int.tmod_eq_emod_of_nonneg (by omega)⟩
theorem conv_dgt (u : Nat) (x : Int) (hx : x = ((UInt8.ofNat (48 + u % 10)).toNat : Int)) (w : World) : (convert 110 9 (.slice (some ⟨w.heap.size, 0, none⟩) 1 1)).run Tryd.prog (w.alloc (.cells #[.int .u8 x] 5)) = .ok (strV (dgt u)) (w.alloc (.cells #[.int .u8 x] 5)) :=
  conv_at _ ⟨w.heap.size, 0, none⟩ 1 (dgt u) (fun j hj => by
    have : j = 0 := by simp only [dgt, List.length_cons, List.length_nil] at hj; omega
    subst this
    subst hx
    exact (Blk.new w 5 _).cell 0)
theorem dgt_val (u : Nat) : (((UInt8.ofNat (48 + u % 10)).toNat : Nat) : Int) = 48 + ((u % 10 : Nat) : Int) := by
  rw [UInt8.toNat_ofNat']
  omega
theorem dec_len (n : Int) (hn : -9223372036854775808 ≤ n ∧ n ≤ 9223372036854775807) : (Lib.decDigits n.natAbs).length ≤ 21 := by
  have h := Lib.itoa_length_le n hn.1 hn.2
  unfold Lib.itoa at h
  split at h
  · simp at h; omega
  · rwa [show n.toNat = n.natAbs by omega] at h

set_option maxRecDepth 100000 in
set_option maxHeartbeats 2000000 in
theorem dec_any (n : Int) (w : World) (hn : -9223372036854775808 ≤ n ∧ n ≤ 9223372036854775807) :
    Calls Tryd.prog 76 #[.int .i64 n] w fun e w' => e = .returned (strV (Lib.itoa n)) ∧ Ext w w' := by
  have HL := Lib.hid (dec_len n hn)
  have HN := Lib.hid hn
  clear hn
  go_enter Tryd.func76, Tryd.ntmps76
  go_upto_region 3 with fail
  go_loopw [0, 3, 5] (fun tv sv _ wr => ∃ (t : Int) (s : List UInt8), tv = .int .i64 t ∧ sv = strV s ∧ Hid (Lib.decDigits n.natAbs = Lib.decDigits t.natAbs ++ s) ∧ Hid (-9223372036854775808 ≤ t ∧ t ≤ 9223372036854775807) ∧ Hid (Ext w wr)) (fun tv _ _ _ => (intOf tv).natAbs)
  case atStart => exact ⟨n, [], rfl, rfl, Lib.hid (by simp), HN, Lib.hid (Ext.refl w)⟩
  case round =>
    obtain ⟨t, s, rfl, rfl, HD, HT, HX⟩ := hrel
    have hls : s.length ≤ 21 := by
      have h1 := HL.out
      rw [HD.out, List.length_append] at h1
      omega
    obtain ⟨x, hx⟩ : ∃ x : Int, x = ((UInt8.ofNat (48 + t.natAbs % 10)).toNat : Int) := ⟨_, rfl⟩
    have hc := conv_dgt t.natAbs x hx wr
    have ha := fun W => add_strV (dgt t.natAbs) s (by simp [dgt]; omega) W
    have HX2 := Lib.hid (HX.out.alloc (.cells #[.int .u8 x] 5))
    rw [dgt_val] at hx
    obtain ⟨tm, htm⟩ : ∃ tm, t.tmod 10 = tm := ⟨_, rfl⟩
    obtain ⟨tq, htq⟩ : ∃ tq, t.tdiv 10 = tq := ⟨_, rfl⟩
    have hTD : (t < 0 ∧ tq = -((-t) / 10) ∧ tm = -((-t) % 10)) ∨ (¬ t < 0 ∧ tq = t / 10 ∧ tm = t % 10) := by
      by_cases h : t < 0
      · obtain ⟨h1, h2⟩ := td_neg t h
        exact .inl ⟨h, htq.symm.trans h1, htm.symm.trans h2⟩
      · obtain ⟨h1, h2⟩ := td_pos t h
        exact .inr ⟨h, htq.symm.trans h1, htm.symm.trans h2⟩
    have hq2 : wrap64 tq = tq := by
      have := HT.out
      unfold wrap64
      omega
    have HQ := Lib.hid (show tq.natAbs = t.natAbs / 10 ∧ (-9223372036854775808 ≤ tq ∧ tq ≤ 9223372036854775807) by
      have := HT.out
      omega)
    have HS : Hid (if t.natAbs / 10 = 0 then Lib.decDigits n.natAbs = dgt t.natAbs ++ s else Lib.decDigits n.natAbs = Lib.decDigits (t.natAbs / 10) ++ (dgt t.natAbs ++ s)) := Lib.hid (by
      split
      · rename_i h
        rw [HD.out, dec_small _ h]
      · rename_i h
        rw [HD.out, dec_big _ h, List.append_assoc])
    have hsl : (dgt t.natAbs ++ s).length ≤ 22 := by simp [dgt]; omega
    have ha2 : ∀ W, (binOp .add 9 (.string ⟨#[45]⟩) (strV (dgt t.natAbs ++ s))).run Tryd.prog W = .ok (strV (45 :: (dgt t.natAbs ++ s))) W := fun W => add_strV [45] (dgt t.natAbs ++ s) (by simp only [List.length_cons, List.length_nil]; omega) W
    have HZ := Lib.hid (show (tq = 0 → t.natAbs / 10 = 0) ∧ (tq ≠ 0 → t.natAbs / 10 ≠ 0) ∧ (tq ≠ 0 → t.natAbs / 10 < t.natAbs) by
      have := HT.out
      omega)
    clear hsl
    generalize dgt t.natAbs = dg at *
    by_cases hneg : tm < 0
    · have hw : wrap64 (48 + wrap64 (-tm)) % 256 = x := by
        have := HT.out
        unfold wrap64
        omega
      clear hx HT hls HD HL hTD
      by_cases hz : tq = 0
      · by_cases hn0 : n < 0
        · have HR := Lib.hid (show Lib.itoa n = 45 :: (dg ++ s) by
            unfold Lib.itoa
            rw [if_pos hn0]
            have h := HS.out
            rw [if_pos (HZ.out.1 hz)] at h
            rw [h])
          go_wp2
          go_ret
          exact ⟨by rw [HR.out]; rfl, HX2.out⟩
        · have HR := Lib.hid (show Lib.itoa n = dg ++ s by
            unfold Lib.itoa
            rw [if_neg hn0, show n.toNat = n.natAbs by omega]
            have h := HS.out
            rw [if_pos (HZ.out.1 hz)] at h
            rw [h])
          go_wp2
          go_ret
          exact ⟨by rw [HR.out]; rfl, HX2.out⟩
      · go_wp2
        go_round
        case rel => exact ⟨tq, dg ++ s, by rw [hq2], rfl, Lib.hid (by
          have h := HS.out
          rw [if_neg (HZ.out.2.1 hz)] at h
          rw [HQ.out.1]
          exact h), Lib.hid HQ.out.2, HX2⟩
        case measure =>
          have h1 := HZ.out.2.2 hz
          have h2 := HQ.out.1
          simp [intOf]; omega
    · have hw : wrap64 (48 + tm) % 256 = x := by
        have := HT.out
        unfold wrap64
        omega
      clear hx HT hls HD HL hTD
      by_cases hz : tq = 0
      · by_cases hn0 : n < 0
        · have HR := Lib.hid (show Lib.itoa n = 45 :: (dg ++ s) by
            unfold Lib.itoa
            rw [if_pos hn0]
            have h := HS.out
            rw [if_pos (HZ.out.1 hz)] at h
            rw [h])
          go_wp2
          go_ret
          exact ⟨by rw [HR.out]; rfl, HX2.out⟩
        · have HR := Lib.hid (show Lib.itoa n = dg ++ s by
            unfold Lib.itoa
            rw [if_neg hn0, show n.toNat = n.natAbs by omega]
            have h := HS.out
            rw [if_pos (HZ.out.1 hz)] at h
            rw [h])
          go_wp2
          go_ret
          exact ⟨by rw [HR.out]; rfl, HX2.out⟩
      · go_wp2
        go_round
        case rel => exact ⟨tq, dg ++ s, by rw [hq2], rfl, Lib.hid (by
          have h := HS.out
          rw [if_neg (HZ.out.2.1 hz)] at h
          rw [HQ.out.1]
          exact h), Lib.hid HQ.out.2, HX2⟩
        case measure =>
          have h1 := HZ.out.2.2 hz
          have h2 := HQ.out.1
          simp [intOf]; omega

end Go.Proofs.YtkcgbdoplhgbmaaDoor
