/- trawlref04.count and size as contracts. Condition: the tree lies in memory, its lists are short, it is in form. trawlref04.Check as a contract: the number of tree.Check's error. Condition: the tree lies in memory, it has few nodes. trawlref15.Simple, Of and Normal as contracts. Condition: the tree lies in memory, clean. trawlref15.Of and Normal as contracts. Condition: the tree lies in memory, clean. -/
import Derived.Test.YtkcgbdoplhgbmaaDoorZNormalMakesAB
import Derived.Test.YtkcgbdoplhgbmaaDoorExpP
import Derived.Test.YtkcgbdoplhgbmaaDoorNodeW
import Derived.Test.YtkcgbdoplhgbmaaDoorZNormalMakesAI
import Derived.Test.YtkcgbdoplhgbmaaDoorZNormalMakesAD
import Derived.Test.YtkcgbdoplhgbmaaDoorNwT
import Derived.Test.YtkcgbdoplhgbmaaDoorZNormalMakesAG
import Derived.Test.YtkcgbdoplhgbmaaDoorZNormalMakesAH
import Derived.Test.YtkcgbdoplhgbmaaDoorZNormalMakesAA
namespace Go.Proofs.YtkcgbdoplhgbmaaDoor
open Go Go.RowKit

theorem min_if3 (a : Int) : Min.min a 2001 = if a < 2001 then a else 2001 := by rw [Int.min_def]; split <;> split <;> omega
theorem count_any2 (a b : Int) (w : World) (ha : 0 ≤ a ∧ a ≤ 1000000) (hb : 0 ≤ b ∧ b ≤ 1000000) :
    Calls Tryd.prog 110 #[.int .i64 a, .int .i64 b] w fun r w' => r = .returned (.int .i64 (Min.min (a + b) 2001)) ∧ w = w' := by
  have q1 : IntKind.i64.wrap (a + b) = a + b := by rw [IntKind.wrap_i64]; omega
  go_enter Tryd.func110, Tryd.ntmps110
  by_cases h : a + b < 2001
  all_goals
    go_wp2
    go_ret
    exact ⟨by rw [min_if3]; first | (rw [if_pos (by omega)]; rfl) | (rw [if_neg (by omega)]; rfl), rfl⟩
theorem min_le {a : Int} (h : 0 ≤ a) : 0 ≤ Min.min a 2001 ∧ Min.min a 2001 ≤ 1000000 := by omega
theorem min_step (a b : Int) (ha : 0 ≤ a) (hb : 0 ≤ b) : Min.min (Min.min a 2001 + Min.min b 2001) 2001 = Min.min (a + b) 2001 := by omega
/-- The parts of a repeat, laid one behind the other. -/
def partsZ (h : Hd) (s : Int) : Int := (h.min.toNat : Int) * s + ((h.max - h.min).toNat : Int) * (s + 1) + (if h.max = -1 then s + 1 else 0)
def manyZ (h : Hd) : Int := h.min.toNat + (h.max - h.min).toNat + (if h.max = -1 then 1 else 0)
theorem parts_rounds (h : Hd) (s : Int) (h0 : 0 ≤ h.min) (h2 : h.max = -1 ∨ h.min ≤ h.max) (hm : h.max ≠ 0) : roundsZ h s = partsZ h s + (if 1 < manyZ h then 1 else 0) := by
  obtain ⟨kind, set, num, mn, mx, bare⟩ := h
  simp only at h0 h2 hm
  unfold roundsZ partsZ manyZ
  simp only
  rcases h2 with rfl | h2
  · have e : (-1 - mn).toNat = 0 := by omega
    have e2 : (mn.toNat : Int) = mn := by omega
    rw [e, e2, if_neg (by omega)]
    simp only [if_true, Int.natCast_zero, Int.zero_mul, Int.add_zero]
    by_cases h3 : mn = 0
    · rw [if_pos ⟨h3, .inr trivial⟩, if_neg (by omega), h3, Int.zero_mul]; omega
    · rw [if_neg (fun h => h3 h.1), if_pos (by omega)]; omega
  · have e : ((mx - mn).toNat : Int) = mx - mn := by omega
    have e2 : (mn.toNat : Int) = mn := by omega
    rw [e, e2]
    have n1 : ¬ mx = -1 := by omega
    rw [if_neg n1, if_neg n1, if_neg n1]
    have ec : (mx - mn) * (1 + s) = (mx - mn) * (s + 1) := by rw [Int.add_comm 1 s]
    by_cases h3 : mn = 1 ∧ mx = 1
    · obtain ⟨rfl, rfl⟩ := h3
      rw [if_pos ⟨rfl, rfl⟩, if_neg (by omega)]
      simp
    · rw [if_neg h3]
      by_cases h4 : mn = 0 ∧ (mx = 1 ∨ mx = -1)
      · obtain ⟨rfl, h5⟩ := h4
        have : mx = 1 := by omega
        subst this
        rw [if_pos ⟨rfl, .inl rfl⟩, if_neg (by omega)]
        simp; omega
      · rw [if_neg h4, if_pos (by omega), ec]; omega

set_option maxRecDepth 100000 in
set_option maxHeartbeats 8000000 in
theorem size04_any : ∀ (n : Nd) (sv : Value) (w : World), NdOk w n sv → smallN n → formB n = true →
    Calls Tryd.prog 86 #[nodeV n.h sv] w fun r w' => r = .returned (.int .i64 (sizeN n)) ∧ Ext w w' := by
  refine Nd.ind fun hd subs ih sv w hn hsm hfm => ?_
  obtain ⟨A, c, rfl⟩ := hn.shape
  obtain ⟨hlen, hsm⟩ := hsm
  rw [formB, Bool.and_eq_true] at hfm
  obtain ⟨hfd, hfl⟩ := hfm
  have IH := Lib.hid (fun n hm sv w hn hf => ih n hm sv w hn (smallL_mem hsm n hm) hf)
  have HN := Lib.hid hn
  have HFL := Lib.hid hfl
  have hrep := fun hk => formed_rep hfd hk
  have hone := fun hk => formed_one hfd hk
  have HZ := Lib.hid (show sizeN (.mk hd subs) = if hd.kind = 8 ∧ hd.max = 0 then 1 else Min.min (if hd.kind = 8 then roundsZ hd (sizeA 0 subs) else sizeA 0 subs + 1) 2001 by rw [sizeN])
  clear ih hsm hfl hn hfd
  generalize sizeN (.mk hd subs) = ss at *
  simp only [Nd.h, Nd.subs] at *
  go_enter Tryd.func86, Tryd.ntmps86
  go_upto_region 1 with (refine wpl_boxNd rfl _ rfl hd _ rfl ?_; intro b w1 hb hx1 eb sb)
  have c0 : w1.cell? ⟨b, 0, none⟩ = some (.int .i64 hd.kind) := hb.cell 0
  have c5 : w1.cell? ⟨b, 5, none⟩ = some (.slice A subs.length c) := hb.cell 5
  have c7 : w1.cell? ⟨b, 7, none⟩ = some (.int .i64 hd.min) := hb.cell 7
  have c8 : w1.cell? ⟨b, 8, none⟩ = some (.int .i64 hd.max) := hb.cell 8
  have hx11 : Ext w1 w1 := Ext.refl w1
  clear hb
  by_cases hk : hd.kind = 8
  · obtain ⟨r1, r2, r3⟩ := hrep hk
    obtain ⟨x, rfl⟩ := hone hk
    clear hrep hone
    by_cases hm : hd.max = 0
    · have HS := Lib.hid (show ss = 1 by rw [HZ.out, if_pos ⟨hk, hm⟩])
      rw [hm] at c8
      rw [hk] at c0
      clear IH HN HFL HZ hk hm c5 c7 r1 r2 r3
      go_wp2
      go_ret
      exact ⟨by rw [HS.out]; rfl, hx1⟩
    · have hfx : formB x = true := by rw [← formL_one]; exact HFL.out
      have hsx := sizeN_range x hfx
      have HS := Lib.hid (show ss = Min.min (partsZ hd (sizeN x) + (if 1 < manyZ hd then 1 else 0)) 2001 by
        rw [HZ.out, if_neg (fun h => hm h.2), if_pos hk, ← parts_rounds hd _ r1 (r3.imp id (·.1)) hm, sizeA, sizeA]
        congr 2
        omega)
      have HPZ := Lib.hid (show partsZ hd (sizeN x) = (hd.min.toNat : Int) * sizeN x + ((hd.max - hd.min).toNat : Int) * (sizeN x + 1) + (if hd.max = -1 then sizeN x + 1 else 0) from rfl)
      have HMZ := Lib.hid (show manyZ hd = hd.min.toNat + (hd.max - hd.min).toNat + (if hd.max = -1 then 1 else 0) from rfl)
      obtain ⟨g0, o0, svx, rfl, hat, hok⟩ := HN.out.get 0 (by simp)
      simp only [List.getElem_cons_zero, Nat.zero_mul, Nat.add_zero] at hat hok
      have IHx := Lib.hid (IH.out x (by simp) svx w1 (hok.ext hx1) hfx)
      replace hat := hat.ext hx1
      rw [hk] at c0
      clear IH HN HFL HZ hfx hok hk
      simp only [List.length_cons, List.length_nil] at *
      generalize sizeN x = s at *
      generalize partsZ hd s = pz at *
      generalize manyZ hd = mz at *
      generalize hd.min = mn at *
      generalize hd.max = mx at *
      have k8 : (mx == 0) = false := by simpa using hm
      go_upto_region 11 with (first
        | (refine wpl_loadNd rfl _ rfl g0 o0 x.h svx rfl hat ?_)
        | (go_at_call 86; refine IHx.out.mono ?_; rintro e w2 ⟨rfl, hx2⟩))
      replace c7 := hx2.cell c7
      replace c8 := hx2.cell c8
      have hx12 := hx1.trans hx2
      clear IHx hat c0 c5 hx11 hx1 hx2
      have hMul : ∀ k : Nat, 0 ≤ (k : Int) * s ∧ 0 ≤ (k : Int) * (s + 1) := fun k => ⟨Int.mul_nonneg (by omega) hsx.1, Int.mul_nonneg (by omega) (by omega)⟩
      have HMU := Lib.hid hMul
      clear hMul
      go_wp2
      go_loop [6, 7, 8] (fun p n i => ∃ k : Nat, k ≤ mn.toNat ∧ i = .int .i64 k ∧ p = .int .i64 k ∧ n = .int .i64 (Min.min ((k : Int) * s) 2001)) (fun _ _ i => mn.toNat - (intOf i).toNat)
      case atStart => exact ⟨0, Nat.zero_le _, rfl, rfl, by rw [Int.natCast_zero, Int.zero_mul]; rfl⟩
      case round =>
        obtain ⟨k, hk, rfl, rfl, rfl⟩ := hrel
        have hmk := HMU.out k
        by_cases hlt : (k : Int) < mn
        · have HC := Lib.hid (count_any2 (Min.min ((k : Int) * s) 2001) s w2 (min_le hmk.1) ⟨hsx.1, by omega⟩)
          have HE := Lib.hid (show Min.min (Min.min ((k : Int) * s) 2001 + s) 2001 = Min.min (((k + 1 : Nat) : Int) * s) 2001 by
            rw [show ((k + 1 : Nat) : Int) * s = (k : Int) * s + s by rw [Int.natCast_succ, Int.add_mul, Int.one_mul]]
            omega)
          have q8 : IntKind.i64.wrap ((k : Int) + 1) = ((k + 1 : Nat) : Int) := by rw [IntKind.wrap_i64]; omega
          rw [HE.out] at HC
          generalize Min.min ((k : Int) * s) 2001 = acc at *
          generalize hacc : Min.min (((k + 1 : Nat) : Int) * s) 2001 = acc2 at *
          have HAC := Lib.hid hacc
          clear hacc
          clear HS HPZ HMZ HE
          go_wp2_with (go_at_call 110; refine HC.out.mono ?_; rintro e w6 ⟨rfl, rfl⟩)
          go_round
          case rel => exact ⟨k + 1, by omega, rfl, rfl, by rw [HAC.out]⟩
          case measure => simp [intOf]; omega
        · have hkm : k = mn.toNat := by omega
          subst hkm
          have HK := Lib.hid (show ((mn.toNat : Nat) : Int) = mn by omega)
          generalize hmn : mn.toNat = kk at *
          have hkb : (kk : Int) ≤ 255 := by omega
          clear hmn hk
          have hMk := (HMU.out kk).1
          generalize (kk : Int) * s = base at *
          go_wp2
          go_loop [6, 7, 9] (fun p n i => ∃ m : Nat, m ≤ (mx - mn).toNat ∧ i = .int .i64 (mn + m) ∧ p = .int .i64 (kk + m) ∧ n = .int .i64 (Min.min (base + (m : Int) * (s + 1)) 2001)) (fun _ _ i => (mx - intOf i).toNat)
          case atStart => exact ⟨0, Nat.zero_le _, by simp, by simp, by simp⟩
          case round =>
            obtain ⟨m, hm', rfl, rfl, rfl⟩ := hrel
            have hmk := (HMU.out m).2
            generalize hacc : base + (m : Int) * (s + 1) = acc at *
            have hacc0 : 0 ≤ acc := by omega
            by_cases hlt2 : mn + (m : Int) < mx
            · have HC := Lib.hid (count_any2 (Min.min acc 2001) s w2 (min_le hacc0) ⟨hsx.1, by omega⟩)
              have HC2 := Lib.hid (count_any2 (Min.min (acc + s) 2001) 1 w2 (min_le (by omega)) (by omega))
              have HE := Lib.hid (show Min.min (Min.min acc 2001 + s) 2001 = Min.min (acc + s) 2001 by omega)
              have HE2 := Lib.hid (show Min.min (Min.min (acc + s) 2001 + 1) 2001 = Min.min (base + ((m + 1 : Nat) : Int) * (s + 1)) 2001 by
                rw [show ((m + 1 : Nat) : Int) * (s + 1) = (m : Int) * (s + 1) + (s + 1) by rw [Int.natCast_succ, Int.add_mul, Int.one_mul], ← Int.add_assoc, hacc]
                omega)
              rw [HE.out] at HC
              rw [HE2.out] at HC2
              have q8 : IntKind.i64.wrap ((kk : Int) + m + 1) = (kk : Int) + m + 1 := by rw [IntKind.wrap_i64]; omega
              have q9 : IntKind.i64.wrap (mn + (m : Int) + 1) = mn + m + 1 := by rw [IntKind.wrap_i64]; omega
              clear HS HPZ HMZ HE HE2 hacc HK
              generalize Min.min acc 2001 = v1 at *
              generalize Min.min (acc + s) 2001 = v2 at *
              generalize hv3 : Min.min (base + ((m + 1 : Nat) : Int) * (s + 1)) 2001 = v3 at *
              have HV3 := Lib.hid hv3
              clear hv3
              go_wp2_with (first
                | (go_at_call 110; refine HC.out.mono ?_; rintro e w6 ⟨rfl, rfl⟩)
                | (go_at_call 110; refine HC2.out.mono ?_; rintro e w6 ⟨rfl, rfl⟩))
              go_round
              case rel => exact ⟨m + 1, by omega, by congr 1; omega, by congr 1, by rw [HV3.out]⟩
              case measure => simp [intOf]; omega
            · have hmm : m = (mx - mn).toNat := by omega
              have HMM := Lib.hid hmm
              have HAC := Lib.hid hacc
              clear hmm hacc
              by_cases h1 : mx = -1
              · subst h1
                have HSS := Lib.hid (show ss = Min.min (acc + (s + 1) + (if 1 < (kk : Int) + m + 1 then 1 else 0)) 2001 by
                  rw [HS.out, HPZ.out, HMZ.out, if_pos rfl, if_pos rfl, ← HMM.out, HAC.out])
                have HC := Lib.hid (count_any2 (Min.min acc 2001) s w2 (min_le hacc0) ⟨hsx.1, by omega⟩)
                have HC2 := Lib.hid (count_any2 (Min.min (acc + s) 2001) 1 w2 (min_le (by omega)) (by omega))
                have HC3 := Lib.hid (count_any2 (Min.min (acc + (s + 1)) 2001) 1 w2 (min_le (by omega)) (by omega))
                have HE := Lib.hid (show Min.min (Min.min acc 2001 + s) 2001 = Min.min (acc + s) 2001 by omega)
                have HE2 := Lib.hid (show Min.min (Min.min (acc + s) 2001 + 1) 2001 = Min.min (acc + (s + 1)) 2001 by omega)
                have HE3 := Lib.hid (show Min.min (Min.min (acc + (s + 1)) 2001 + 1) 2001 = Min.min (acc + (s + 1) + 1) 2001 by omega)
                rw [HE.out] at HC
                rw [HE2.out] at HC2
                rw [HE3.out] at HC3
                have q8 : IntKind.i64.wrap ((kk : Int) + m + 1) = (kk : Int) + m + 1 := by rw [IntKind.wrap_i64]; omega
                clear HS HPZ HMZ HE HE2 HE3 HAC HMM HK hm k8
                by_cases hp : 1 < (kk : Int) + m + 1
                all_goals
                  have HSF := Lib.hid HSS.out
                  first | rw [if_pos hp] at HSF | (rw [if_neg hp, Int.add_zero] at HSF)
                  clear HSS
                  generalize Min.min acc 2001 = v1 at *
                  generalize Min.min (acc + s) 2001 = v2 at *
                  generalize Min.min (acc + (s + 1)) 2001 = v3 at *
                  try generalize Min.min (acc + (s + 1) + 1) 2001 = v4 at *
                  go_wp2_with (first
                    | (go_at_call 110; refine HC.out.mono ?_; rintro e w6 ⟨rfl, rfl⟩)
                    | (go_at_call 110; refine HC2.out.mono ?_; rintro e w6 ⟨rfl, rfl⟩)
                    | (go_at_call 110; refine HC3.out.mono ?_; rintro e w6 ⟨rfl, rfl⟩))
                  go_ret
                  exact ⟨by rw [HSF.out]; rfl, hx12⟩
              · have HSS := Lib.hid (show ss = Min.min (acc + (if 1 < (kk : Int) + m then 1 else 0)) 2001 by
                  rw [HS.out, HPZ.out, HMZ.out, if_neg h1, if_neg h1, ← HMM.out, HAC.out, Int.add_zero, Int.add_zero])
                have HC := Lib.hid (count_any2 (Min.min acc 2001) 1 w2 (min_le hacc0) (by omega))
                have HE := Lib.hid (show Min.min (Min.min acc 2001 + 1) 2001 = Min.min (acc + 1) 2001 by omega)
                rw [HE.out] at HC
                have n1 : (mx == -1) = false := by simpa using h1
                clear HS HPZ HMZ HE HAC HMM HK hm k8
                by_cases hp : 1 < (kk : Int) + m
                all_goals
                  have HSF := Lib.hid HSS.out
                  first | rw [if_pos hp] at HSF | (rw [if_neg hp, Int.add_zero] at HSF)
                  clear HSS
                  generalize Min.min acc 2001 = v1 at *
                  try generalize Min.min (acc + 1) 2001 = v2 at *
                  go_wp2_with (go_at_call 110; refine HC.out.mono ?_; rintro e w6 ⟨rfl, rfl⟩)
                  go_ret
                  exact ⟨by rw [HSF.out]; rfl, hx12⟩
  · have HS := Lib.hid (show ss = Min.min (sizeA 0 subs + 1) 2001 by rw [HZ.out, if_neg (fun h => hk h.1), if_neg hk])
    have n1 : (hd.kind != 8) = true := by simpa using hk
    clear hrep hone HZ hk c7 c8
    generalize hd.kind = kind at *
    go_wp2
    go_loopw [3, 4] (fun a i wr => ∃ k : Nat, k ≤ subs.length ∧ i = .int .i64 k ∧ a = .int .i64 (Min.min (sizeA 0 (subs.take k) + 1) 2001) ∧ Ext w1 wr) (fun _ i _ => subs.length - (intOf i).toNat)
    case atStart => exact ⟨0, Nat.zero_le _, rfl, by rw [List.take_zero, sizeA]; rfl, hx11⟩
    case round =>
      clear hx11 c0 n1
      obtain ⟨k, hk', rfl, rfl, hx⟩ := hrel
      have hxw := hx1.trans hx
      replace c5 := hx.cell c5
      by_cases hlt : k < subs.length
      · have hfk : formL (subs.take k) = true := by
          have h1 := HFL.out
          rw [← List.take_append_drop k subs, formL_app, Bool.and_eq_true] at h1
          exact h1.1
        obtain ⟨r1, r2⟩ := sizeA_range (subs.take k) 0 hfk (by omega) (by omega)
        obtain ⟨g0, o0, sv, rfl, hat, hok⟩ := HN.out.get k hlt
        have hfn : formB subs[k] = true := by
          have h1 := HFL.out
          rw [← List.take_append_drop (k + 1) subs, formL_app, take_snoc subs k hlt, formL_app, formL_one, Bool.and_eq_true, Bool.and_eq_true] at h1
          exact h1.1.2
        obtain ⟨r3, r4⟩ := sizeN_range _ hfn
        replace hat := hat.ext hxw
        have IHk := Lib.hid (IH.out subs[k] (List.getElem_mem hlt) sv wr (NdOk.ext hxw _ _ hok) hfn)
        have HST := Lib.hid (show Min.min (sizeA 0 (subs.take (k + 1)) + 1) 2001 = Min.min (Min.min (sizeA 0 (subs.take k) + 1) 2001 + sizeN subs[k]) 2001 by rw [take_snoc subs k hlt, sizeA_app, sizeA, sizeA]; omega)
        have HC := Lib.hid (fun W => count_any2 (Min.min (sizeA 0 (subs.take k) + 1) 2001) (sizeN subs[k]) W (min_le (by omega)) ⟨r3, by omega⟩)
        rw [← HST.out] at HC
        clear IH HN HFL hok hfk hfn HS
        generalize Min.min (sizeA 0 (subs.take k) + 1) 2001 = v1 at *
        generalize hv2 : Min.min (sizeA 0 (subs.take (k + 1)) + 1) 2001 = v2 at *
        have HV2 := Lib.hid hv2
        clear hv2 HST
        generalize sizeN subs[k] = res at *
        generalize subs[k] = nk at *
        have t1 : (k : Int) < (subs.length : Int) := by omega
        go_wp2_with (first
          | (refine wpl_loadNd rfl _ rfl g0 (o0 + k * 10) nk.h sv rfl hat ?_)
          | (go_at_call 86; refine IHk.out.mono ?_; rintro e w6 ⟨rfl, hx6⟩)
          | (go_at_call 110; refine (HC.out _).mono ?_; rintro e w7 ⟨rfl, rfl⟩))
        go_roundw
        case rel => exact ⟨k + 1, by omega, by go_num, by rw [HV2.out], hx.trans hx6⟩
        case measure => simp [intOf]; omega
      · have hkl : subs.take k = subs := List.take_of_length_le (by omega)
        rw [hkl]
        have t1 : ¬ (k : Int) < (subs.length : Int) := by omega
        rw [← HS.out]
        clear IH HN HFL hkl HS
        go_wp2
        go_ret
        exact ⟨rfl, hxw⟩

end Go.Proofs.YtkcgbdoplhgbmaaDoor

namespace Go.Proofs.YtkcgbdoplhgbmaaDoor
open Go Go.RowKit

set_option maxRecDepth 100000 in
set_option maxHeartbeats 4000000 in
theorem check04_any (n : Nd) (sv : Value) (w : World) (m : Int) (hn : NdOk w n sv) (hm : m ≤ 1000000) (hfew : 0 ≤ leftN n m) :
    Calls Tryd.prog 61 #[nodeV n.h sv] w fun r w' => r = .returned (.int .i64 (chkN n)) ∧ Ext w w' := by
  have hsm := small_left n m hm hfew
  have H1 := Lib.hid (fun W (hW : Ext w W) => form04_any n sv W (hn.ext hW) hsm)
  have H2 := Lib.hid (fun W (hW : Ext w W) => depth04_any n sv W m (hn.ext hW) hm hfew)
  have H3 := Lib.hid (fun W (hW : Ext w W) (hf : formB n = true) => size04_any n sv W (hn.ext hW) hsm hf)
  have HR := Lib.hid (show chkN n = if formB n = false then 13 else if 200 < depthN n then 14 else if 2000 < sizeN n then 10 else 0 from rfl)
  clear hn hm hfew hsm
  generalize chkN n = ck at *
  generalize depthN n = dn at *
  generalize sizeN n = sn at *
  generalize formB n = fb at *
  generalize n.h = hd at *
  go_enter Tryd.func61, Tryd.ntmps61
  go_upto_region 1 with (refine wpl_boxNd rfl _ rfl hd _ rfl ?_; intro b w1 hb hx1 eb sb)
  cases fb
  · have HR2 := Lib.hid (HR.out.trans (if_pos rfl))
    clear HR H2 H3
    go_wp2_with (first
      | (refine wpl_loadNd rfl _ rfl b 0 hd _ rfl hb.nd ?_)
      | (go_at_call 84; refine (H1.out _ hx1).mono ?_; rintro e w2 ⟨rfl, hx2⟩))
    go_ret
    exact ⟨by rw [HR2.out]; rfl, hx1.trans hx2⟩
  have HR1 := Lib.hid (HR.out.trans (if_neg (by decide)))
  have H3' := Lib.hid (fun W hW => H3.out W hW rfl)
  clear HR H3
  by_cases hd1 : 200 < dn
  · have HR2 := Lib.hid (HR1.out.trans (if_pos hd1))
    clear HR1 H3'
    go_wp2_with (first
      | (refine wpl_loadNd rfl _ rfl b 0 hd _ rfl hb.nd ?_)
      | (go_at_call 84; refine (H1.out _ hx1).mono ?_; rintro e w2 ⟨rfl, hx2⟩)
      | (refine wpl_loadNd rfl _ rfl b 0 hd _ rfl (hb.ext hx2).nd ?_)
      | (go_at_call 85; refine (H2.out _ (hx1.trans hx2)).mono ?_; rintro e w3 ⟨rfl, hx3⟩))
    go_ret
    exact ⟨by rw [HR2.out]; rfl, (hx1.trans hx2).trans hx3⟩
  have HR3 := Lib.hid (HR1.out.trans (if_neg hd1))
  clear HR1
  by_cases hd2 : 2000 < sn
  all_goals
    go_wp2_with (first
      | (refine wpl_loadNd rfl _ rfl b 0 hd _ rfl hb.nd ?_)
      | (go_at_call 84; refine (H1.out _ hx1).mono ?_; rintro e w2 ⟨rfl, hx2⟩)
      | (refine wpl_loadNd rfl _ rfl b 0 hd _ rfl (hb.ext hx2).nd ?_)
      | (go_at_call 85; refine (H2.out _ (hx1.trans hx2)).mono ?_; rintro e w3 ⟨rfl, hx3⟩)
      | (refine wpl_loadNd rfl _ rfl b 0 hd _ rfl (hb.ext (hx2.trans hx3)).nd ?_)
      | (go_at_call 86; refine (H3'.out _ ((hx1.trans hx2).trans hx3)).mono ?_; rintro e w4 ⟨rfl, hx4⟩))
    go_ret
    exact ⟨by rw [HR3.out]; first | (rw [if_pos hd2]; rfl) | (rw [if_neg (by omega)]; rfl), ((hx1.trans hx2).trans hx3).trans hx4⟩

end Go.Proofs.YtkcgbdoplhgbmaaDoor

namespace Go.Proofs.YtkcgbdoplhgbmaaDoor
open Go Go.RowKit

def pieceR (k : Int) (n : Nd) : List Nd := if (simpN n).h.kind = k ∧ k ≠ 8 then (simpN n).subs else [simpN n]
def rowsR (k : Int) (l : List Nd) : List Nd := l.flatMap (pieceR k)
theorem rowsR_flat {k : Int} (hk : k ≠ 8) : ∀ (l : List Nd), rowsR k l = flatL k l
  | [] => by rw [flatL]; rfl
  | n :: r => by
    rw [flatL, ← rowsR_flat hk r]
    show pieceR k n ++ rowsR k r = _
    congr 1
    unfold pieceR partsN
    by_cases h : (simpN n).h.kind = k
    · rw [if_pos ⟨h, hk⟩, if_pos h]
    · rw [if_neg (fun hh => h hh.1), if_neg h]
theorem rowsR_len (k : Int) : ∀ (l : List Nd), (∀ n ∈ l, okN n) → (rowsR k l).length ≤ cntL l
  | [], _ => by simp [rowsR, cntL]
  | n :: r, h => by
    have h1 := rowsR_len k r (fun m hm => h m (List.mem_cons_of_mem _ hm))
    have h2 := cnt_simp n (h n (by simp))
    have h3 : (pieceR k n).length ≤ cntN (simpN n) := by
      unfold pieceR
      split
      · have := cntL_len (simpN n).subs
        have e : cntN (simpN n) = 1 + cntL (simpN n).subs := by
          cases simpN n with
          | mk a b => rw [cntN]; rfl
        omega
      · have := cnt_pos (simpN n)
        simp; omega
    show (pieceR k n ++ rowsR k r).length ≤ _
    rw [List.length_append, cntL]
    omega
theorem rowsR_snoc (k : Int) (a : List Nd) (n : Nd) : rowsR k (a ++ [n]) = rowsR k a ++ pieceR k n := by unfold rowsR; rw [List.flatMap_append, List.flatMap_singleton]
theorem normL_app : ∀ (a b : List Nd), normL (a ++ b) = normL a ++ normL b := fun a b => by rw [normL_map, normL_map, normL_map, List.map_append]
theorem normL_one (n : Nd) : normL [n] = [normN n] := by rw [normL, normL]

set_option maxRecDepth 100000 in
set_option maxHeartbeats 8000000 in
theorem rsimple_any : ∀ (n : Nd) (sv : Value) (w : World), NdOk w n sv → okN n → freeN n = true → cntN n ≤ 1000000 →
    Calls Tryd.prog 87 #[nodeV n.h sv] w (RetB w (simpN n)) := by
  refine Nd.ind fun hd subs ih sv w hn hok hfr hcnt => ?_
  obtain ⟨A, c, rfl⟩ := hn.shape
  obtain ⟨f1, f2⟩ := form_at hok.1
  obtain ⟨c1, c2⟩ := cl_at hok.2
  have hfr' : hd.kind ≠ 7 ∧ ∀ n ∈ subs, freeN n = true := by
    rw [freeN, Bool.and_eq_true, freeL_iff] at hfr
    exact ⟨by simpa using hfr.1, hfr.2⟩
  have hcl : cntL subs ≤ 1000000 := by rw [cntN] at hcnt; omega
  have hlen : subs.length ≤ 1000000 := by have := cntL_len subs; omega
  have hoks : ∀ n ∈ subs, okN n := fun n hm => ⟨f2 n hm, c2 n hm⟩
  have IH := Lib.hid (fun n (hm : n ∈ subs) sv w (hn : NdOk w n sv) => ih n hm sv w hn (hoks n hm) (hfr'.2 n hm) (by have := cntL_mem hm; omega))
  have hfok : ∀ k, ∀ n ∈ flatL k subs, okN n := fun k => free_flat k (fun n hm => ⟨hoks n hm, hfr'.2 n hm⟩)
  have hfc : ∀ k, cntL (flatL k subs) ≤ 1000000 := fun k => by have := cnt_flat k subs (fun n hm => cnt_simp n (hoks n hm)); omega
  have HSEQ := Lib.hid (fun C W v (h : NdB C W (.mk (hdV 0) (flatL 5 subs)) v) (hW : C ≤ W.heap.size) => rrow_any _ v W _ h hW (hfok 5) (hfc 5))
  have HALT := Lib.hid (fun C W v (h : NdB C W (.mk (hdV 0) (flatL 6 subs)) v) (hW : C ≤ W.heap.size) => rchoice_any _ v W _ h hW (hfok 6) (hfc 6))
  have HREP := Lib.hid (fun x C W sv svx (h : NdB C W x svx) (hW : C ≤ W.heap.size) => rrepeat_any hd sv x svx W _ h hW)
  have HONE := Lib.hid (fun hk : hd.kind = 8 => formed_single f1 (.inr hk))
  have HLEAF := Lib.hid (fun (h5 : hd.kind ≠ 5) (h6 : hd.kind ≠ 6) (h8 : hd.kind ≠ 8) => (by
    have h7 := hfr'.1
    have hk := formed_kind f1
    by_cases hlt : hd.kind < 5
    · exact List.eq_nil_of_length_eq_zero (formed_leaf f1 hlt)
    · omega : subs = []))
  have HLT5 := Lib.hid (fun h : hd.kind < 5 => formed_leaf f1 h)
  have HK := Lib.hid (⟨formed_kind f1, hfr'.1⟩ : _ ∧ _)
  have HOKS := Lib.hid (fun n hm => ok_simp n (hoks n hm))
  have HRL := Lib.hid (fun k : Nat => (by
    have h1 := rowsR_len hd.kind (subs.take k) (fun n hm => hoks n (List.mem_of_mem_take hm))
    have h2 := cntL_take subs k
    omega : (rowsR hd.kind (subs.take k)).length ≤ 1000000))
  have HN := Lib.hid hn
  have HR := Lib.hid (by rw [simpN] : simpN (.mk hd subs) = if hd.kind = 5 then seqO (flatL 5 subs) else if hd.kind = 6 then altO (flatL 6 subs) else if hd.kind = 8 then repO hd (headN (simpL subs)) else .mk hd subs)
  clear ih hn hok hfr hcnt f1 f2 c1 c2 hfr' hcl hoks hfok hfc
  generalize simpN (.mk hd subs) = res at *
  simp only [Nd.subs] at *
  show Calls _ _ #[nodeV hd _] _ _
  go_enter Tryd.func87, Tryd.ntmps87
  go_upto_region 1 with (first
    | (refine wpl_boxNd rfl _ rfl hd _ rfl ?_; intro b w1 hb hx1 eb sb)
    | (refine wpl_allocNd rfl rfl ?_; intro z w2 hz hx2 ez sz))
  have hx12 := hx1.trans hx2
  replace hb := hb.ext hx2
  have c0 : w2.cell? ⟨b, 0, none⟩ = some (.int .i64 hd.kind) := hb.cell 0
  have c5 : w2.cell? ⟨b, 5, none⟩ = some (.slice A subs.length c) := hb.cell 5
  have hwz : w.heap.size ≤ z := by have := hx1.size; omega
  have h12 := hx12.size
  have hzl := hz.lt
  clear hx1 hx2 eb sb ez sz
  have hL0 : LstB w2 w2.heap.size w2.heap.size (.slice none 0 0) [] := LstB.nil _ _ _
  have hx22 : Ext w2 w2 := Ext.refl w2
  go_wp2
  go_loopw [3, 4] (fun v i wr => ∃ (k : Nat) (l : List (Nd × Value)), k ≤ subs.length ∧ i = .int .i64 k ∧ l.map (·.1) = rowsR hd.kind (subs.take k) ∧ LstB wr w2.heap.size w2.heap.size v l ∧ Ext w2 wr) (fun _ i _ => subs.length - (intOf i).toNat)
  case atStart => exact ⟨0, [], Nat.zero_le _, rfl, rfl, hL0, hx22⟩
  case round =>
    clear hL0 hx22
    obtain ⟨k, l, hk, rfl, hl, hL, hx⟩ := hrel
    have HL := Lib.hid hl
    have hxw := hx12.trans hx
    have c0r := hx.cell c0
    have c5r := hx.cell c5
    have hll : l.length ≤ 1000000 := by have := congrArg List.length hl; rw [List.length_map] at this; rw [this]; exact HRL.out k
    by_cases hlt : k < subs.length
    · obtain ⟨g0, o0, sv, rfl, hat, hok⟩ := HN.out.get k hlt
      replace hat := hat.ext hxw
      have IHk := Lib.hid (IH.out subs[k] (List.getElem_mem hlt) sv wr (NdOk.ext hxw _ _ hok))
      have HP := Lib.hid (show (l.map (·.1)) ++ pieceR hd.kind subs[k] = rowsR hd.kind (subs.take (k + 1)) by
        rw [HL.out, take_snoc subs k hlt, rowsR_snoc])
      have HP2 := Lib.hid (show l.length + (pieceR hd.kind subs[k]).length ≤ 1000000 by
        have h1 := HRL.out (k + 1)
        rw [← HP.out, List.length_append, List.length_map] at h1
        exact h1)
      have HPD := Lib.hid (show pieceR hd.kind subs[k] = if (simpN subs[k]).h.kind = hd.kind ∧ hd.kind ≠ 8 then (simpN subs[k]).subs else [simpN subs[k]] from rfl)
      have HSO := Lib.hid (HOKS.out _ (List.getElem_mem hlt))
      have hge5 : ¬ hd.kind < 5 := fun h => by have := HLT5.out h; omega
      have HKK := Lib.hid (show hd.kind = 5 ∨ hd.kind = 6 ∨ hd.kind = 8 by have := HK.out; omega)
      clear HN HL IH HOKS hok hl HR HSEQ HALT HREP HONE HLEAF HLT5 HK HRL hge5
      generalize pieceR hd.kind subs[k] = pc at *
      generalize simpN subs[k] = sn at *
      generalize subs[k] = nk at *
      generalize hd.kind = kind at *
      have d1 : (k : Int) < (subs.length : Int) := by omega
      go_upto_region 6 with (first
        | (refine wpl_loadNd rfl _ rfl g0 (o0 + k * 10) nk.h sv rfl hat ?_)
        | (go_at_call 87; refine IHk.out.mono ?_; rintro e w6 ⟨sv6, rfl, hn6, hx6⟩)
        | (refine wpl_allocNd rfl rfl ?_; intro s w4 hs hx4 es ss)
        | (refine wpl_storeNd rfl _ _ rfl rfl s sn.h _ sv6 _ rfl rfl hn6.ok.sl hs ?_; intro w7 hs7 hk7))
      have hx47 := hx4.keep1 hk7 es
      have hx7 := hx6.trans hx47
      have hn7 := hn6.ext hx47
      have hk0 : w7.cell? ⟨s, 0, none⟩ = some (.int .i64 sn.h.kind) := hs7.cell 0
      have hk5' : w7.cell? ⟨s, 5, none⟩ = some sv6 := hs7.cell 5
      have c07 := hx7.cell c0r
      have hL7 := hL.ext hx7
      have hnear : NdIn w7 (fun b => w2.heap.size ≤ b ∧ Off w7 u3 b) sn sv6 := NdB.near hn7 (by have := hx.size; omega) (fun i hi => by have := hL.ownB i hi; omega)
      have hB7 : w2.heap.size ≤ w7.heap.size := by have := hx.size; have := hx7.size; omega
      clear hs hx4 es ss hk7 hx6 hn6 hx47 hn7 hat hL c0r c5r
      by_cases hke : sn.h.kind = kind ∧ kind ≠ 8
      · have hpe := HPD.out.trans (if_pos hke)
        obtain ⟨hke, hk8⟩ := hke
        have hne : sn.subs ≠ [] := by
          have h1 := HSO.out
          obtain ⟨sh, ss⟩ := sn
          have h2 := formed_two (form_at h1.1).1 (by rw [show sh.kind = kind from hke]; have := HKK.out; omega)
          intro h0
          rw [show ss = [] from h0] at h2
          simp at h2
        rw [hpe] at HP HP2
        have n8 : (kind != 8) = true := by simpa using hk8
        obtain ⟨sh, ss⟩ := sn
        obtain ⟨l2, g, o, c2, rfl, hg2, hl2, hkid, hcell⟩ := NdIn.kids hnear hne
        simp only [Nd.h, Nd.subs] at *
        have hl2l : l2.length = ss.length := by rw [← hl2, List.length_map]
        have hll2 : l.length + l2.length ≤ 1000000000 := by have := HP2.out; omega
        have HM := Lib.hid hl2
        rw [hke] at hk0
        clear HP2 hl2 hne hke HSO hnear hs7 HPD hpe hk8 HKK
        go_wp2_with (refine wpl_appsB rfl _ _ rfl w2.heap.size w2.heap.size u3 l l2 g o c2 ss.length rfl rfl hl2l hL7 hB7 hkid hcell hll2 ?_; intro v8 w8 hL8 hg8)
        have hx8 := ext_grown_B (hx.trans hx7) hL7 (Nat.le_refl _) hg8
        go_roundw
        case rel => exact ⟨k + 1, l ++ l2, by omega, by go_num, by rw [List.map_append, HM.out, HP.out], hL8, hx8⟩
        case measure => simp [intOf]; omega
      · have hpe := HPD.out.trans (if_neg hke)
        rw [hpe] at HP
        have hll2 : l.length ≤ 1000000000 := by omega
        have hcs : ((sn.h.kind == kind) = false) ∨ (sn.h.kind = 8 ∧ kind = 8) := by
          by_cases h : sn.h.kind = kind
          · have h8 : kind = 8 := Classical.byContradiction fun h8 => hke ⟨h, h8⟩
            exact .inr ⟨h.trans h8, h8⟩
          · exact .inl (by rw [beq_eq_false_iff_ne]; exact h)
        clear HP2 hke HSO HPD hpe HKK
        rcases hcs with n1 | ⟨h1, rfl⟩
        case' inr => rw [h1] at hk0; clear h1
        all_goals
          go_wp2_with (first
            | (refine wpl_loadNd rfl _ rfl s 0 sn.h sv6 rfl hs7.nd ?_)
            | (refine wpl_oneNd rfl _ rfl sn.h sv6 rfl ?_; intro g8 w8 hb8 hx8 e8 s8)
            | (refine wpl_appB rfl _ _ rfl w2.heap.size w2.heap.size u3 l sn sv6 g8 1 rfl rfl (hL7.ext hx8) (by have := hx8.size; omega) (ndIn_ext hnear hx8) hb8 hll2 ?_; intro v9 w9 hL9 hg9))
          have hx9 := ext_grown_B ((hx.trans hx7).trans hx8) (hL7.ext hx8) (Nat.le_refl _) hg9
          go_roundw
          case rel => exact ⟨k + 1, l ++ [(sn, sv6)], by omega, by go_num, by rw [List.map_append]; exact HP.out, hL9, hx9⟩
          case measure => simp [intOf]; omega
    · have hkl : subs.take k = subs := List.take_of_length_le (by omega)
      rw [hkl] at HL
      have hd1 : ¬ (k : Int) < (subs.length : Int) := by omega
      have hbr := hb.ext hx
      have hzr := hz.ext hx
      have hrs := hx.size
      have HND := Lib.hid (hL.node (Nat.le_refl _) (hdV 0))
      clear hkl IH HN hk hlt HOKS HLT5 HK HRL hl
      by_cases k5 : hd.kind = 5
      · have HE := Lib.hid (HR.out.trans (if_pos k5))
        have e5 : rowsR hd.kind subs = flatL 5 subs := by rw [k5]; exact rowsR_flat (by decide) subs
        have HF := Lib.hid (by have := HND.out; rw [HL.out, e5] at this; exact HSEQ.out _ _ _ this hrs)
        rw [k5] at c0r
        clear HR HND HL hL HALT HREP HONE HLEAF HSEQ e5 k5
        go_wp2_with (first
          | (go_at_call 111; refine HF.out.mono ?_; rintro e w4 ⟨sv4, rfl, hn4, hx4⟩)
          | (refine wpl_storeNd rfl _ _ rfl rfl z _ _ sv4 _ rfl rfl hn4.ok.sl (hzr.ext hx4) ?_; intro w5 hz5 hk5))
        exact ret_nd rfl rfl rfl hz5 ⟨sv4, by rw [HE.out], by rw [HE.out]; exact (hn4.keep1 hk5 hzl).mono h12, (hxw.trans hx4).keep1 hk5 hwz⟩
      have n5 : (hd.kind == 5) = false := by rw [beq_eq_false_iff_ne]; exact k5
      have HR2 := Lib.hid (HR.out.trans (if_neg k5))
      clear HR HSEQ
      by_cases k6 : hd.kind = 6
      · have HE := Lib.hid (HR2.out.trans (if_pos k6))
        have e6 : rowsR hd.kind subs = flatL 6 subs := by rw [k6]; exact rowsR_flat (by decide) subs
        have HF := Lib.hid (by have := HND.out; rw [HL.out, e6] at this; exact HALT.out _ _ _ this hrs)
        rw [k6] at c0r
        clear HR2 HND HL hL HALT HREP HONE HLEAF e6 k5 k6 n5
        go_wp2_with (first
          | (go_at_call 112; refine HF.out.mono ?_; rintro e w4 ⟨sv4, rfl, hn4, hx4⟩)
          | (refine wpl_storeNd rfl _ _ rfl rfl z _ _ sv4 _ rfl rfl hn4.ok.sl (hzr.ext hx4) ?_; intro w5 hz5 hk5))
        exact ret_nd rfl rfl rfl hz5 ⟨sv4, by rw [HE.out], by rw [HE.out]; exact (hn4.keep1 hk5 hzl).mono h12, (hxw.trans hx4).keep1 hk5 hwz⟩
      have n6 : (hd.kind == 6) = false := by rw [beq_eq_false_iff_ne]; exact k6
      have HR3 := Lib.hid (HR2.out.trans (if_neg k6))
      clear HR2 HALT
      by_cases k8 : hd.kind = 8
      · have hl1 := HONE.out k8
        obtain ⟨x, rfl⟩ : ∃ x, subs = [x] := List.length_eq_one_iff.1 hl1
        have HE := Lib.hid (HR3.out.trans (if_pos k8))
        have he : headN (simpL [x]) = simpN x := by rw [simpL, simpL]; rfl
        rw [he] at HE
        have hp : rowsR hd.kind [x] = [simpN x] := by
          show pieceR hd.kind x ++ [] = _
          unfold pieceR
          rw [if_neg (fun h => h.2 k8), List.append_nil]
        rw [hp] at HL
        have hl2 : l.length = 1 := by have := congrArg List.length HL.out; simpa using this
        obtain ⟨y, rfl⟩ : ∃ y, l = [y] := List.length_eq_one_iff.1 hl2
        clear hl2
        have hyx : y.1 = simpN x := by have := HL.out; simpa using this
        obtain ⟨gm, capm, rfl, _, _, _⟩ := hL.own.form (by simp)
        have haty : NdAt wr gm 0 y.1.h y.2 := fun j hj => by
          have := hL.own.cell 0 (nodeC y.1.h y.2) rfl j hj
          rwa [Nat.zero_mul] at this
        have hky : NdB w2.heap.size wr y.1 y.2 := NdIn.keep (fun b hb => ⟨rfl, hb.1, hb.2.1⟩) (hL.kid y (by simp))
        rw [← hyx] at HE
        rw [k8] at c0r
        clear hyx hp he HL hL HND HR3 HONE HLEAF hl1 k5 k6 n5 n6 k8 hll
        simp only [List.length_map, List.length_cons, List.length_nil] at *
        obtain ⟨y1, y2⟩ := y
        try simp only at *
        go_upto_region 15 with fail
        refine wp_region_plus_tail 4 (by kernel_rfl) (by kernel_rfl) ?_
        simp only [List.take_succ_cons, List.take_zero, List.drop_succ_cons, List.drop_zero]
        repeat (first
          | (refine wpQuiet_loadNd _ rfl rfl b 0 hd _ rfl hbr.nd ?_; simp only [Act.put, List.setIfInBounds_toArray, List.set_cons_succ, List.set_cons_zero])
          | (refine wpQuiet_loadNd _ rfl rfl gm 0 y1.h y2 rfl haty ?_; simp only [Act.put, List.setIfInBounds_toArray, List.set_cons_succ, List.set_cons_zero])
          | (go_big_quiet_step (fail)))
        refine wpQuiet_nil ?_
        intro y
        have hyx := plus_ext wr y
        have hzy := hzr.ext hyx
        have hkyy := hky.ext hyx
        have hys := hyx.size
        have HF := Lib.hid (HREP.out y1 w2.heap.size (plus wr y) (.slice A 1 c) y2 hkyy (by omega))
        clear HREP
        generalize plus wr y = wy at *
        go_wp2_with (first
          | (go_at_call 113; refine HF.out.mono ?_; rintro e w4 ⟨sv4, rfl, hn4, hx4⟩)
          | (refine wpl_storeNd rfl _ _ rfl rfl z _ _ sv4 _ rfl rfl hn4.ok.sl (hzy.ext hx4) ?_; intro w5 hz5 hk5))
        exact ret_nd rfl rfl rfl hz5 ⟨sv4, by rw [HE.out], by rw [HE.out]; exact (hn4.keep1 hk5 hzl).mono h12, ((hxw.trans hyx).trans hx4).keep1 hk5 hwz⟩
      · have n8 : (hd.kind == 8) = false := by rw [beq_eq_false_iff_ne]; exact k8
        have HE := Lib.hid (HR3.out.trans (if_neg k8))
        obtain rfl := HLEAF.out k5 k6 k8
        clear k5 k6 k8 HR3 HONE HLEAF HREP HL hL HND
        simp only [List.length_nil] at *
        go_wp2_with (first
          | (refine wpl_loadNd rfl _ rfl b 0 hd _ rfl hbr.nd ?_)
          | (refine wpl_storeNd rfl _ _ rfl rfl z hd _ _ _ rfl rfl (isSl_mk _ _ _) hzr ?_; intro w5 hz5 hk5))
        exact ret_nd rfl rfl rfl hz5 ⟨_, by rw [HE.out]; rfl, by rw [HE.out]; exact NdB.nil _ _ _ _ _, hxw.keep1 hk5 hwz⟩

end Go.Proofs.YtkcgbdoplhgbmaaDoor

namespace Go.Proofs.YtkcgbdoplhgbmaaDoor
open Go Go.RowKit

set_option maxRecDepth 100000 in
set_option maxHeartbeats 8000000 in
theorem rof_any : ∀ (n : Nd) (sv : Value) (w : World), NdOk w n sv → okN n → cntN n ≤ 1000000 →
    Calls Tryd.prog 62 #[nodeV n.h sv] w (RetB w (normN n)) := by
  refine Nd.ind fun hd subs ih sv w hn hok hcnt => ?_
  obtain ⟨A, c, rfl⟩ := hn.shape
  obtain ⟨f1, f2⟩ := form_at hok.1
  obtain ⟨c1, c2⟩ := cl_at hok.2
  have hsm := cnt_small _ hcnt
  have hcl : cntL subs ≤ 1000000 := by rw [cntN] at hcnt; omega
  have hlen : subs.length ≤ 1000000 := by have := cntL_len subs; omega
  have hoks : ∀ n ∈ subs, okN n := fun n hm => ⟨f2 n hm, c2 n hm⟩
  have IH := Lib.hid (fun n (hm : n ∈ subs) sv w (hn : NdOk w n sv) => ih n hm sv w hn (hoks n hm) (by have := cntL_mem hm; omega))
  have HFR := Lib.hid (fun W (hW : Ext w W) => rfree_any (.mk hd subs) _ W (hn.ext hW) hsm)
  have HSI := Lib.hid (fun W (hW : Ext w W) (hf : freeN (.mk hd subs) = true) => rsimple_any (.mk hd subs) _ W (hn.ext hW) hok hf hcnt)
  have HN := Lib.hid hn
  have HR := Lib.hid (by rw [normN] : normN (.mk hd subs) = if freeN (.mk hd subs) = true then simpN (.mk hd subs) else .mk hd (normL subs))
  clear ih hn hok hcnt f1 f2 c1 c2 hsm hcl hoks
  generalize normN (.mk hd subs) = res at *
  generalize freeN (.mk hd subs) = fr at *
  generalize simpN (.mk hd subs) = sm at *
  simp only [Nd.subs] at *
  show Calls _ _ #[nodeV hd _] _ _
  have HFR' := Lib.hid (fun W (hW : Ext w W) => (HFR.out W hW : Calls Tryd.prog 21 #[nodeV hd (.slice A subs.length c)] W fun r w' => r = .returned (.bool fr) ∧ Ext W w'))
  clear HFR
  go_enter Tryd.func62, Tryd.ntmps62
  go_upto_region 1 with (first
    | (refine wpl_boxNd rfl _ rfl hd _ rfl ?_; intro b w1 hb hx1 eb sb)
    | (refine wpl_allocNd rfl rfl ?_; intro z w2 hz hx2 ez sz))
  have hx12 := hx1.trans hx2
  have hb2 := hb.ext hx2
  have c5 : w2.cell? ⟨b, 5, none⟩ = some (.slice A subs.length c) := hb2.cell 5
  have hbz : b < z := by omega
  have hwz : w.heap.size ≤ z := by omega
  have hwb : w.heap.size ≤ b := eb
  have hb2s := hb2.lt
  clear hb hx1 hx2 eb ez
  have hsz12 := hx12.size
  cases fr
  · have HE2 := Lib.hid (HR.out.trans (if_neg (by decide)))
    clear HR HSI
    go_upto_region 6 with (first
      | (refine wpl_loadNd rfl _ rfl b 0 hd _ rfl hb2.nd ?_)
      | (go_at_call 21; refine (HFR'.out _ hx12).mono ?_; rintro e w2' ⟨rfl, hx2'⟩)
      | (refine wpl_loadNd rfl _ rfl b 0 hd _ rfl (hb2.ext hx2').nd ?_)
      | (refine wpl_allocNd rfl rfl ?_; intro s w3 hs hx3 es ss)
      | (refine wpl_storeNd rfl _ _ rfl rfl s hd _ _ _ rfl rfl (isSl_mk _ _ _) hs ?_; intro w4 hs4 hk4)
      | (refine wpl_storeSubs rfl _ _ rfl rfl s hd (.slice none 0 0) _ rfl rfl (isSl_mk _ _ _) hs4 ?_; intro w5 hs5 hk5))
    have es' : w2.heap.size ≤ s := by have := hx2'.size; omega
    have hx5 := ((hx2'.trans hx3).keep1 hk4 es').keep1 hk5 es'
    have c55 := hx5.cell c5
    have hz2 := hz
    have es := es'
    have hxw := hx12.trans hx5
    have hs5l := hs5.lt
    have h25 := hx5.size
    clear hb2 hs hs4 hk4 hk5 hx3 hz HFR' es' hx2'
    have hL0 : LstB w5 w5.heap.size w5.heap.size (.slice none 0 0) [] := LstB.nil _ _ _
    have hx22 : Ext w2 w5 := hx5
    go_wp2
    go_loopw [5] (fun i wr => ∃ (k : Nat) (v : Value) (l : List (Nd × Value)), k ≤ subs.length ∧ i = .int .i64 k ∧ l.map (·.1) = normL (subs.take k) ∧ w5.heap.size ≤ wr.heap.size ∧ LstB wr w5.heap.size w5.heap.size v l ∧ Blk wr s 27 (nodeA hd v) ∧ Ext w2 wr) (fun i _ => subs.length - (intOf i).toNat)
    case atStart => exact ⟨0, _, [], Nat.zero_le _, rfl, by rw [List.take_zero, normL]; rfl, Nat.le_refl _, hL0, hs5, hx22⟩
    case round =>
      clear hL0 hx22 hs5 c55
      obtain ⟨k, v, l, hk, rfl, hl, hwr, hL, hB, hx⟩ := hrel
      have HL := Lib.hid hl
      have hll : l.length = k := by have := congrArg List.length hl; rw [normL_map] at this; simpa [Nat.min_eq_left hk] using this
      have hll2 : l.length ≤ 1000000000 := by omega
      clear hl
      have hxr := hx12.trans hx
      have c5r := hx.cell c5
      by_cases hlt : k < subs.length
      · obtain ⟨g0, o0, sv, rfl, hat, hok⟩ := HN.out.get k hlt
        replace hat := hat.ext hxr
        have IHk := Lib.hid (fun w' (hw' : Ext wr w') => IH.out subs[k] (List.getElem_mem hlt) sv w' (NdOk.ext (hxr.trans hw') _ _ hok))
        have HM := Lib.hid (show (l.map (·.1)) ++ [normN subs[k]] = normL (subs.take (k + 1)) by rw [HL.out, take_snoc subs k hlt, normL_app, normL_one])
        have hsl := hok.sl
        clear IH HN HL hok
        generalize normN subs[k] = ek at *
        generalize subs[k] = nk at *
        have t1 : (k : Int) < (subs.length : Int) := by omega
        have k5 : ∀ W, Ext wr W → W.cell? ⟨s, 5, none⟩ = some v := fun W hW => (hB.ext hW).cell 5
        go_upto_region 9 with fail
        refine wp_region_mid (fun W => Ext wr W) 9 (by kernel_rfl) ?_
        refine wpAnyM_pure (i := 0) rfl (by kernel_rfl) (by kernel_rfl) (by kernel_rfl) (by decide) (fun _ _ _ h => h) (Ext.refl wr).drew rfl (fun W => by go_simp; try rfl) ?_
        refine wpAnyM_take (i := 1) (v := v) [9] rfl (by kernel_rfl) (by kernel_rfl) (by kernel_rfl) (by kernel_rfl) (fun _ _ _ h => h) (Ext.refl wr).drew (yieldsIf_value rfl (fun W hW => by have k5' := k5 W hW; go_simp; try rfl)) ?_
        simp only [Act.put, List.setIfInBounds_toArray]
        refine wpAnyM_pure (i := 2) rfl (by kernel_rfl) (by kernel_rfl) (by kernel_rfl) (by decide) (fun _ _ _ h => h) (Ext.refl wr).drew rfl (fun W => by go_simp; try rfl) ?_
        refine wpAnyM_pure (i := 4) rfl (by kernel_rfl) (by kernel_rfl) (by kernel_rfl) (by decide) (fun _ _ _ h => h) (Ext.refl wr).drew rfl (fun W => by go_simp; try rfl) ?_
        simp only [Act.put]
        have c5d : wr.drew.cell? ⟨b, 5, none⟩ = some (.slice (some ⟨g0, o0, none⟩) subs.length c) := c5r
        refine wpAnyM_step (i := 3) (by kernel_rfl) rfl (by decide) ?_
        go_wp2
        refine stepQ_ok ⟨(Ext.refl wr).drew, ?_⟩
        refine wpAnyM_step (i := 5) (by kernel_rfl) rfl (by decide) ?_
        go_wp2
        refine stepQ_ok ⟨(Ext.refl wr).drew, ?_⟩
        refine wpAnyM_step (i := 6) (by kernel_rfl) rfl (by decide) ?_
        refine wpl_loadNd rfl _ rfl g0 (o0 + k * 10) nk.h sv rfl hat.drew ?_
        refine stepQ_end ⟨(Ext.refl wr).drew, ?_⟩
        simp only [Act.put, List.setIfInBounds_toArray]
        refine wpAnyM_step (i := 7) (by kernel_rfl) rfl (by decide) ?_
        go_wp2_with (go_at_call 62; refine (IHk.out _ (Ext.refl wr).drew).mono ?_; rintro e w6 ⟨sv6, rfl, hn6, hx6⟩)
        have hx6' := (Ext.refl wr).drew.trans hx6
        refine stepQ_ok ⟨hx6', ?_⟩
        refine wpAnyM_step (i := 8) (by kernel_rfl) rfl (by decide) ?_
        refine wpl_oneNd rfl _ rfl ek.h sv6 rfl ?_
        intro g7 w7 hb7 hx7 e7 s7
        have hx7' := hx6'.trans hx7
        refine stepQ_end ⟨hx7', ?_⟩
        simp only [Act.put, List.setIfInBounds_toArray]
        have h67 := hx6'.size
        refine wpAnyM_last3 (t := 10) (u := 11) (by kernel_rfl) rfl (by kernel_rfl) rfl (by kernel_rfl) rfl (by kernel_rfl) ?_
        refine wpl_appB rfl _ _ rfl w5.heap.size w5.heap.size v l ek sv6 g7 1 rfl rfl (hL.ext hx7') (by have := hx7'.size; omega) (ndIn_ext (hn6.near (C := w5.heap.size) hwr (fun i hi => (hL.ownB i hi).2)) hx7) hb7 hll2 ?_
        intro v8 w8 hL8 hg8
        have hs8 : Blk w8 s 27 (nodeA hd v) := grown_keep1 (hB.ext hx7') hg8 (fun e => by have := (hL.ownB s e).1; omega)
        have hx8 : Ext w2 w8 := ext_grown_B (hx.trans hx7') (hL.ext hx7') h25 hg8
        refine stepQ_end ?_
        simp only [Act.put]
        go_wp2
        refine stepQ_ok ?_
        obtain ⟨A8, c8, rfl, _⟩ := hL8.len
        refine wpl_storeSubs rfl _ _ rfl rfl s hd _ _ rfl rfl (isSl_mk _ _ _) hs8 ?_
        intro w9 hs9 hk9
        have hx9 := hx8.keep1 hk9 es
        have hL9 := hL8.keep1 hk9 hs5l hs5l
        have hw9 : w5.heap.size ≤ w9.heap.size := by have := hx7'.size; have := hg8.size; have := hk9.size; omega
        clear hx8 hL8 hs8 hk9 hg8 hx7' hb7 hn6 hx6 hx6' hx7 e7 s7 h67 hL hB hx hat k5 c5r c5d hxr hwr
        go_wp2
        go_roundw
        case rel => exact ⟨k + 1, _, l ++ [(ek, sv6)], by omega, by go_num, by simpa using HM.out, hw9, hL9, hs9, hx9⟩
        case measure => simp [intOf]; omega
      · have hkl : subs.take k = subs := List.take_of_length_le (by omega)
        rw [hkl] at HL
        have t1 : ¬ (k : Int) < (subs.length : Int) := by omega
        have hnd := Lib.hid (hL.node (Nat.le_refl _) hd)
        rw [HL.out, ← HE2.out] at hnd
        have hsl := hnd.out.ok.sl
        have hz9 : Blk wr z 27 _ := hz2.ext hx
        have hhd : res.h = hd := by rw [HE2.out]; rfl
        clear hkl IH HN HL hL
        go_wp2_with (first
          | (refine wpl_loadNd rfl _ rfl s 0 hd v rfl hB.nd ?_)
          | (refine wpl_storeNd rfl _ _ rfl rfl z hd _ v _ rfl rfl hsl hz9 ?_; intro w7 hz7 hk7))
        exact ret_nd rfl rfl rfl hz7 ⟨v, by rw [hhd], ((hnd.out.keep1 hk7 (by omega)).mono (by omega)), (hx12.trans hx).keep1 hk7 hwz⟩
  · have HE := Lib.hid (HR.out.trans (if_pos rfl))
    have HSI2 := Lib.hid (fun W hW => (HSI.out W hW rfl : Calls Tryd.prog 87 #[nodeV hd (.slice A subs.length c)] W (RetB W sm)))
    clear HR IH HN HSI
    go_wp2_with (first
      | (refine wpl_loadNd rfl _ rfl b 0 hd _ rfl hb2.nd ?_)
      | (go_at_call 21; refine (HFR'.out _ hx12).mono ?_; rintro e w3 ⟨rfl, hx3⟩)
      | (refine wpl_loadNd rfl _ rfl b 0 hd _ rfl (hb2.ext hx3).nd ?_)
      | (go_at_call 87; refine (HSI2.out _ (hx12.trans hx3)).mono ?_; rintro e w4 ⟨sv4, rfl, hn4, hx4⟩)
      | (refine wpl_storeNd rfl _ _ rfl rfl z _ _ sv4 _ rfl rfl hn4.ok.sl (hz.ext (hx3.trans hx4)) ?_; intro w5 hz5 hk5))
    have := hx3.size
    exact ret_nd rfl rfl rfl hz5 ⟨sv4, by rw [HE.out], by rw [HE.out]; exact (hn4.keep1 hk5 (by omega)).mono (by omega), ((hx12.trans hx3).trans hx4).keep1 hk5 hwz⟩

def RetBE (w : World) (n : Nd) (k : Nat) (r : Ending) (w' : World) : Prop := ∃ sv, r = .returned (.tuple #[nodeV (resN n k).h sv, .int .i64 k]) ∧ NdB w.heap.size w' (resN n k) sv ∧ Ext w w'

set_option maxRecDepth 100000 in
set_option maxHeartbeats 4000000 in
theorem rnormal_any (n : Nd) (sv : Value) (w : World) (m : Int) (hn : NdOk w n sv) (hc : clN n) (hm : m ≤ 1000000) (hfew : 0 ≤ leftN n m) :
    Calls Tryd.prog 17 #[nodeV n.h sv] w (RetBE w (normN n) (chkN n)) := by
  have hcnt := few_cnt hm hfew
  have H1 := Lib.hid (fun W (hW : Ext w W) => check04_any n sv W m (hn.ext hW) hm hfew)
  have H2 := Lib.hid (fun W (hW : Ext w W) (hf : chkN n = 0) => rof_any n sv W (hn.ext hW) ⟨(chk_ok hf).1, hc⟩ hcnt)
  clear hn hm hfew hc hcnt
  generalize chkN n = ck at *
  generalize normN n = res at *
  generalize n.h = hd at *
  go_enter Tryd.func17, Tryd.ntmps17
  go_upto_region 1 with (first
    | (refine wpl_boxNd rfl _ rfl hd _ rfl ?_; intro b w1 hb hx1 eb sb)
    | (refine wpl_allocNd rfl rfl ?_; intro z w2 hz hx2 ez sz))
  have h1 := hx1.size
  by_cases hk : ck = 0
  · subst hk
    have H2' := Lib.hid (fun W hW => H2.out W hW rfl)
    clear H2
    go_wp2_with (first
      | (refine wpl_loadNd rfl _ rfl b 0 hd _ rfl (hb.ext hx2).nd ?_)
      | (go_at_call 61; refine (H1.out _ (hx1.trans hx2)).mono ?_; rintro e w3 ⟨rfl, hx3⟩)
      | (refine wpl_loadNd rfl _ rfl b 0 hd _ rfl (hb.ext (hx2.trans hx3)).nd ?_)
      | (go_at_call 62; refine (H2'.out _ ((hx1.trans hx2).trans hx3)).mono ?_; rintro e w4 ⟨sv4, rfl, hn4, hx4⟩)
      | (refine wpl_storeNd rfl _ _ rfl rfl z res.h _ sv4 _ rfl rfl hn4.ok.sl (hz.ext (hx3.trans hx4)) ?_; intro w5 hz5 hk5))
    have h2 := hx2.size
    have h3 := hx3.size
    exact ret_nd2 rfl rfl rfl rfl hz5 ⟨sv4, rfl, ((show NdB w3.heap.size w4 (resN res 0) sv4 from hn4).keep1 hk5 (by omega)).mono (by omega), (((hx1.trans hx2).trans hx3).trans hx4).keep1 hk5 (by omega)⟩
  · have HR := Lib.hid (show resN res ck = .mk (hdV 0) [] from if_neg hk)
    have n1 : ((ck : Int) != 0) = true := by simpa using hk
    clear H2
    go_wp2_with (first
      | (refine wpl_loadNd rfl _ rfl b 0 hd _ rfl (hb.ext hx2).nd ?_)
      | (go_at_call 61; refine (H1.out _ (hx1.trans hx2)).mono ?_; rintro e w3 ⟨rfl, hx3⟩)
      | (refine wpl_storeNd rfl _ _ rfl rfl z (hdV 0) _ (.slice none 0 0) _ rfl (node_lit _ _ _ _ _ _) (isSl_mk _ _ _) (hz.ext hx3) ?_; intro w5 hz5 hk5))
    exact ret_nd2 rfl rfl rfl rfl hz5 ⟨_, by rw [HR.out]; rfl, by rw [HR.out]; exact NdB.nil _ _ _ _ _, ((hx1.trans hx2).trans hx3).keep1 hk5 (by omega)⟩


end Go.Proofs.YtkcgbdoplhgbmaaDoor
