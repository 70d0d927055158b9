/- Laws of seeking: SeekCounts and SeekPasses return true and leave a world that extends the one they got. For every text. -/
import Derived.Test.YtceolkbekmlhdaaSeekLaw
import Derived.Deep.RegionHeld3
namespace Go.Proofs.Ytceolkbekmlhdaa
open Go.RowKit

/-! ### plain facts -/
theorem allL_mono (s t : List UInt8) : ∀ d k : Nat, (allL s t k).length ≤ (allL s t (k + d)).length
  | 0, _ => Nat.le_refl _
  | d + 1, k => by
    have h := allL_mono s t d k
    have e : k + (d + 1) = (k + d) + 1 := by omega
    rw [e, allL_succ, List.length_append]
    omega
theorem allL_beyond (s t : List UInt8) (k : Nat) : (allL s t k).length ≤ (allL s t (s.length + 1)).length := by
  rcases Nat.lt_or_ge (s.length + 1) k with h | h
  · obtain ⟨d, rfl⟩ : ∃ d, k = s.length + 1 + d := ⟨k - (s.length + 1), by omega⟩
    clear h
    induction d with
    | zero => exact Nat.le_refl _
    | succ d ih =>
      have e : s.length + 1 + (d + 1) = (s.length + 1 + d) + 1 := by omega
      have hs : stands s t (s.length + 1 + d) = false := by
        cases h : stands s t (s.length + 1 + d)
        · rfl
        · have := stands_le h; omega
      rw [e, allL_succ, hs]
      simpa using ih
  · obtain ⟨d, hd⟩ : ∃ d, s.length + 1 = k + d := ⟨s.length + 1 - k, by omega⟩
    rw [hd]
    exact allL_mono s t d k
theorem eachL_le (s t : List UInt8) (step : Nat) (h : 1 ≤ step) : ∀ f p, (allL s t p).length + (eachL s t step f p).length ≤ (allL s t (s.length + 1)).length
  | 0, p => allL_beyond s t p
  | f + 1, p => by
    cases hf : fnd s t p with
    | none => rw [eachL_none hf]; exact allL_beyond s t p
    | some j =>
      obtain ⟨hpj, hsj, _⟩ := fnd_some hf
      rw [eachL_some hf, List.length_cons]
      have ih := eachL_le s t step h f (j + step)
      have h1 : (allL s t p).length ≤ (allL s t j).length := by
        obtain ⟨d, rfl⟩ : ∃ d, j = p + d := ⟨j - p, by omega⟩
        exact allL_mono s t d p
      have h2 : (allL s t (j + 1)).length = (allL s t j).length + 1 := by rw [allL_succ, hsj]; simp
      have h3 : (allL s t (j + 1)).length ≤ (allL s t (j + step)).length := by
        obtain ⟨d, rfl⟩ : ∃ d, step = 1 + d := ⟨step - 1, by omega⟩
        have := allL_mono s t d (j + 1)
        rwa [Nat.add_assoc] at this
      omega
theorem fnd_none_all {s t : List UInt8} {i : Nat} (h : fnd s t i = none) (j : Nat) (hj : i ≤ j) : stands s t j = false := by
  cases hs : stands s t j
  · rfl
  · exfalso
    have hle := stands_le hs
    unfold fnd at h
    rw [List.find?_eq_none] at h
    have := h j (by rw [List.mem_range']; exact ⟨j - i, by omega, by omega⟩)
    exact this hs
theorem allL_nil {s t : List UInt8} (h : ∀ j, stands s t j = false) (k : Nat) : allL s t k = [] := by
  unfold allL
  rw [List.filter_eq_nil_iff]
  intro x _
  rw [h x]; simp
theorem cnt_le (s t : ByteArray) : cnt s t ≤ (allL (by_ s) (by_ t) (s.size + 1)).length := by
  unfold cnt
  split
  · omega
  · have := eachL_le (by_ s) (by_ t) t.size (by omega) (s.size + 2) 0
    rw [by_len] at this
    omega
theorem cnt_pos (s t : ByteArray) (h0 : ¬ t.size = 0) : cnt s t = 0 → (allL (by_ s) (by_ t) (s.size + 1)).length = 0 := by
  unfold cnt
  rw [if_neg h0]
  intro h
  cases hf : fnd (by_ s) (by_ t) 0 with
  | none => rw [allL_nil (fun j => fnd_none_all hf j (Nat.zero_le _))]; rfl
  | some j => rw [eachL_some hf] at h; simp at h
theorem all_empty (s t : ByteArray) (h0 : t.size = 0) : (allL (by_ s) (by_ t) (s.size + 1)).length = s.size + 1 := by
  have : by_ t = [] := List.eq_nil_of_length_eq_zero (by rw [by_len]; exact h0)
  rw [this, ← range_allL _ _ (by rw [by_len]; exact Nat.le_refl _), List.length_range]

set_option maxRecDepth 100000 in
set_option maxHeartbeats 4000000 in
theorem seekCounts_walk (s t : ByteArray) (_w0 : s.size ≤ maxLen) (_w1 : t.size ≤ maxLen) (w : World) :
    Calls Try.prog 9 #[.string s, .string t] w fun r w' => r = .returned (.bool true) ∧ Ext w w' := by
  by_cases hs : s.size ≤ 5000
  · have hsb : decide ((5000 : Int) < (s.size : Int)) = false := by simp; omega
    by_cases ht : t.size ≤ 5000
    · have htb : decide ((5000 : Int) < (t.size : Int)) = false := by simp; omega
      have HA := Lib.hid (fun W => all_any s t W (by omega) (by omega))
      have HI := Lib.hid (fun i W => index_any s t i W (by omega) (by omega))
      have HC := Lib.hid (fun W => count_any s t W (by omega) (by omega))
      by_cases h0 : t.size = 0
      · have he := isEmpty_of h0
        have hc : cnt s t = 0 := by unfold cnt; rw [if_pos h0]
        rw [hc] at HC
        have hi : idx s t s.size = s.size := by
          unfold idx
          rw [if_neg (by omega), Int.toNat_natCast, fnd_hit]
          · rfl
          · have : by_ t = [] := List.eq_nil_of_length_eq_zero (by rw [by_len]; exact h0)
            rw [this]
            exact stands_empty _ _ (by rw [by_len]; exact Nat.le_refl _)
        have hii := HI.out (s.size : Int)
        rw [hi] at hii
        have HII := Lib.hid hii
        have HL := Lib.hid (all_empty s t h0)
        clear hc hi hii h0
        go_enter Try.func9, Try.ntmps9
        go_wp2_with (first
          | (go_at_call 17; refine (seekLives_any _).mono ?_; rintro e w1 ⟨rfl, hx1⟩)
          | (go_at_call 25; refine (HC.out _).mono ?_; rintro e w2 ⟨rfl, hx2⟩)
          | (go_at_call 23; refine (HII.out _).mono ?_; rintro e w3 ⟨rfl, hx3⟩)
          | (go_at_call 21; refine (HA.out _).mono ?_; rintro e w4 ⟨⟨v, rfl, hv⟩, hx4⟩; obtain ⟨A, c, rfl, hrd⟩ := RdI.of_own hv; clear hrd; rw [nI_len, HL.out]))
        go_ret
        exact ⟨rfl, ((hx1.trans hx2).trans hx3).trans hx4⟩
      · have he := isEmpty_not h0
        have htp : 1 ≤ t.size := by omega
        have CL := Lib.hid (cnt_le s t)
        have CP := Lib.hid (cnt_pos s t h0)
        have hcd : cnt s t = (eachL (by_ s) (by_ t) t.size (s.size + 2) 0).length := by unfold cnt; rw [if_neg h0]
        have HCD := Lib.hid hcd
        clear hcd h0
        go_enter Try.func9, Try.ntmps9
        go_wp2_with (first
          | (go_at_call 17; refine (seekLives_any _).mono ?_; rintro e w1 ⟨rfl, hx1⟩)
          | (go_at_call 25; refine (HC.out _).mono ?_; rintro e w2 ⟨rfl, hx2⟩))
        have hx12 := hx1.trans hx2
        clear hx1 hx2 HC
        go_loopw [6, 7, 8] (fun k a _ wr => ∃ c p f : Nat, k = .int .i64 c ∧ a = .int .i64 p ∧ Hid (c + (eachL (by_ s) (by_ t) t.size f p).length = cnt s t) ∧ s.size + 2 ≤ f + p ∧ p ≤ s.size ∧ c ≤ p ∧ Hid (c * t.size ≤ p) ∧ Ext w wr) (fun _ a _ _ => s.size + 1 - (intOf a).toNat)
        case atStart => exact ⟨0, 0, s.size + 2, rfl, rfl, Lib.hid (by rw [HCD.out]; omega), by omega, by omega, Nat.le_refl _, Lib.hid (by omega), hx12⟩
        case round =>
          clear hx12
          obtain ⟨c, p, f, rfl, rfl, hq, hfp, hp, hcp, hm, hx⟩ := hrel
          have hii := HI.out (p : Int)
          have hip : idx s t p = fI (fnd (by_ s) (by_ t) p) := by unfold idx; rw [if_neg (by omega), Int.toNat_natCast]
          rw [hip] at hii
          clear hip
          cases hf : fnd (by_ s) (by_ t) p with
          | none =>
            rw [hf] at hii
            have hm1 : fI none = -1 := rfl
            rw [hm1] at hii
            have HII := Lib.hid hii
            have hcc : c = cnt s t := by rw [← hq.out, eachL_none hf]; rfl
            have HCC := Lib.hid hcc
            have hmm : (c : Int) * (t.size : Int) ≤ (s.size : Int) := by
              have := hm.out
              have h2 : ((c * t.size : Nat) : Int) ≤ (s.size : Int) := by omega
              rwa [Int.natCast_mul] at h2
            have hmm0 : 0 ≤ (c : Int) * (t.size : Int) := Int.mul_nonneg (by omega) (by omega)
            have hce : (cnt s t : Int) = (c : Int) := by rw [hcc]
            have hcl : c ≤ (allL (by_ s) (by_ t) (s.size + 1)).length := by rw [hcc]; exact CL.out
            have hlb := allL_len (by_ s) (by_ t) (s.size + 1)
            have hcz : c = 0 → (allL (by_ s) (by_ t) (s.size + 1)).length = 0 := by rw [hcc]; exact CP.out
            have HCZ := Lib.hid hcz
            clear hii hcc hf hm1 hcz
            rw [hce]
            have HLN := Lib.hid (show (nI (allL (by_ s) (by_ t) (s.size + 1))).length = (allL (by_ s) (by_ t) (s.size + 1)).length from nI_len _)
            generalize nI (allL (by_ s) (by_ t) (s.size + 1)) = l at *
            generalize (allL (by_ s) (by_ t) (s.size + 1)).length = T at *
            clear hce
            rcases Nat.eq_zero_or_pos c with hc0 | hc0
            · have hT : T = 0 := HCZ.out hc0
              subst hc0 hT
              clear hmm hmm0
              go_wp2_with (first
                | (go_at_call 23; refine (HII.out _).mono ?_; rintro e w3 ⟨rfl, hx3⟩; have hy3 : Ext w w3 := hx.trans hx3)
                | (go_at_call 21; refine (HA.out _).mono ?_; rintro e w4 ⟨⟨v, rfl, hv⟩, hx4⟩; obtain ⟨A, ca, rfl, hrd⟩ := RdI.of_own hv; clear hrd; rw [HLN.out]; have hy4 : Ext w w4 := Ext.trans (by assumption) hx4; clear hx4))
              go_ret
              exact ⟨rfl, by assumption⟩
            · have hT : 0 < T := by omega
              have hTi : (c : Int) ≤ (T : Int) := by omega
              go_wp2_with (first
                | (go_at_call 23; refine (HII.out _).mono ?_; rintro e w3 ⟨rfl, hx3⟩; have hy3 : Ext w w3 := hx.trans hx3)
                | (go_at_call 21; refine (HA.out _).mono ?_; rintro e w4 ⟨⟨v, rfl, hv⟩, hx4⟩; obtain ⟨A, ca, rfl, hrd⟩ := RdI.of_own hv; clear hrd; rw [HLN.out]; have hy4 : Ext w w4 := Ext.trans (by assumption) hx4; clear hx4))
              go_ret
              exact ⟨rfl, by assumption⟩
          | some j =>
            rw [hf, fI_some] at hii
            have HII := Lib.hid hii
            obtain ⟨hpj, hsj, _⟩ := fnd_some hf
            have hjs := stands_le hsj
            rw [by_len, by_len] at hjs
            obtain ⟨f', rfl⟩ : ∃ f', f = f' + 1 := ⟨f - 1, by omega⟩
            have hE := hq.out
            rw [eachL_some hf, List.length_cons] at hE
            have HE := Lib.hid hE
            clear hii hE hf hsj hq
            have hj0 : (0 : Int) ≤ (j : Int) := by omega
            have hj1 : ¬ ((j : Int) < (p : Int)) := by omega
            have hj2 : (j : Int) + (t.size : Int) ≤ (s.size : Int) := by omega
            have hkm : (c + 1) * t.size ≤ j + t.size := by
              have := hm.out
              rw [Nat.succ_mul]; omega
            have HKM := Lib.hid hkm
            clear hkm
            go_wp2_with (go_at_call 23; refine (HII.out _).mono ?_; rintro e w3 ⟨rfl, hx3⟩)
            go_roundw
            case rel => exact ⟨c + 1, j + t.size, f', by go_num, by go_num, Lib.hid (by rw [← HE.out]; omega), by omega, by omega, by omega, HKM, hx.trans hx3⟩
            case measure => simp [intOf]; omega
    · have htb : decide ((5000 : Int) < (t.size : Int)) = true := by simp; omega
      go_enter Try.func9, Try.ntmps9
      go_wp2_with (go_at_call 17; refine (seekLives_any _).mono ?_; rintro e w1 ⟨rfl, hx1⟩)
      go_ret
      exact ⟨rfl, hx1⟩
  · have hsb : decide ((5000 : Int) < (s.size : Int)) = true := by simp; omega
    go_enter Try.func9, Try.ntmps9
    go_wp2_with (go_at_call 17; refine (seekLives_any _).mono ?_; rintro e w1 ⟨rfl, hx1⟩)
    go_ret
    exact ⟨rfl, hx1⟩

theorem pick_place (a : Int) (n m : Nat) (h : m ≤ n) (h1 : 1 ≤ m) (hn : n ≤ 1000000) : ∃ r : Nat, wrap64 ((IntKind.u64.wrap a).tmod ((n : Int) - (m : Int) + 1)) = (r : Int) ∧ r + m ≤ n := by
  have h0 : 0 ≤ IntKind.u64.wrap a := by rw [IntKind.wrap_u64]; omega
  rw [Int.tmod_eq_emod_of_nonneg h0]
  have h2 : 0 ≤ IntKind.u64.wrap a % ((n : Int) - (m : Int) + 1) := Int.emod_nonneg _ (by omega)
  have h3 : IntKind.u64.wrap a % ((n : Int) - (m : Int) + 1) < (n : Int) - (m : Int) + 1 := Int.emod_lt_of_pos _ (by omega)
  refine ⟨(IntKind.u64.wrap a % ((n : Int) - (m : Int) + 1)).toNat, ?_, by omega⟩
  unfold wrap64
  omega

set_option maxRecDepth 100000 in
set_option maxHeartbeats 8000000 in
theorem seekPasses_walk (s t : ByteArray) (at_ : Int) (_w0 : s.size ≤ maxLen) (_w1 : t.size ≤ maxLen) (_w2 : (Lit.int .i64 at_).wf = true) (w : World) :
    Calls Try.prog 8 #[.string s, .string t, .int .i64 at_] w fun r w' => r = .returned (.bool true) ∧ Ext w w' := by
  by_cases hs : s.size ≤ 5000
  · have hsb : decide ((5000 : Int) < (s.size : Int)) = false := by simp; omega
    by_cases ht : t.size ≤ 5000
    · have htb : decide ((5000 : Int) < (t.size : Int)) = false := by simp; omega
      have HA := Lib.hid (fun W => all_any s t W (by omega) (by omega))
      have HI := Lib.hid (fun i W => index_any s t i W (by omega) (by omega))
      have EA := Lib.hid (eachL_all (by_ s) (by_ t) (s.size + 1) (s.size + 2) 0 (by rw [by_len]; omega) (by rw [by_len]; omega))
      have hlb := allL_len (by_ s) (by_ t) (s.size + 1)
      go_enter Try.func8, Try.ntmps8
      go_wp2_with (first
        | (go_at_call 17; refine (seekLives_any _).mono ?_; rintro e w1 ⟨rfl, hx1⟩)
        | (go_at_call 21; refine (HA.out _).mono ?_; rintro e w4 ⟨⟨v, rfl, hv⟩, hx4⟩; obtain ⟨A, c, rfl, hrd⟩ := RdI.of_own hv; rw [nI_len]))
      have hx14 := hx1.trans hx4
      have HRD := Lib.hid hrd
      clear hx1 hv hrd
      go_loopw [8, 9, 10] (fun n i _ wr => ∃ (acc : List Nat) (p f : Nat), n = .int .i64 acc.length ∧ i = .int .i64 p ∧ Hid (acc ++ eachL (by_ s) (by_ t) 1 f p = allL (by_ s) (by_ t) (s.size + 1)) ∧ s.size + 2 ≤ f + p ∧ p ≤ s.size + 1 ∧ Ext w wr ∧ Ext w4 wr) (fun _ i _ _ => s.size + 2 - (intOf i).toNat)
      case atStart =>
        refine ⟨[], 0, s.size + 2, rfl, rfl, Lib.hid ?_, by omega, by omega, hx14, Ext.refl _⟩
        have := EA.out
        rw [by_len, Nat.max_eq_right (by omega)] at this
        exact this
      case round =>
        clear hx14
        obtain ⟨acc, p, f, rfl, rfl, hq, hfp, hp, hx, hx4r⟩ := hrel
        have hal : acc.length ≤ (allL (by_ s) (by_ t) (s.size + 1)).length := by
          have := congrArg List.length hq.out
          rw [List.length_append] at this
          omega
        have hii := HI.out (p : Int)
        have hip : idx s t p = fI (fnd (by_ s) (by_ t) p) := by unfold idx; rw [if_neg (by omega), Int.toNat_natCast]
        rw [hip] at hii
        clear hip
        cases hf : fnd (by_ s) (by_ t) p with
        | none =>
          rw [hf] at hii
          have hm1 : fI none = -1 := rfl
          rw [hm1] at hii
          have HII := Lib.hid hii
          have hcc : acc = allL (by_ s) (by_ t) (s.size + 1) := by rw [← hq.out, eachL_none hf, List.append_nil]
          subst hcc
          clear hii hm1 hf hq hal HRD
          by_cases h0 : t.size = 0
          · have he := isEmpty_of h0
            have hL := all_empty s t h0
            have HL := Lib.hid h0
            rw [hL]
            clear hL h0
            go_wp2_with (go_at_call 23; refine (HII.out _).mono ?_; rintro e w5 ⟨rfl, hx5⟩)
            go_ret
            exact ⟨rfl, hx.trans hx5⟩
          · have he := isEmpty_not h0
            by_cases hbig : s.size < t.size
            · have hbb : decide ((s.size : Int) < (t.size : Int)) = true := by simp; omega
              have hL : (allL (by_ s) (by_ t) (s.size + 1)).length = 0 := by
                rw [allL_nil (fun j => ?_)]; rfl
                cases hst : stands (by_ s) (by_ t) j
                · rfl
                · have := stands_le hst; rw [by_len, by_len] at this; omega
              rw [hL]
              clear hL h0
              go_wp2_with (go_at_call 23; refine (HII.out _).mono ?_; rintro e w5 ⟨rfl, hx5⟩)
              go_ret
              exact ⟨rfl, hx.trans hx5⟩
            · have hbb : decide ((s.size : Int) < (t.size : Int)) = false := by simp; omega
              have HS := Lib.hid (fun W => shifts_new t W (by omega) (by omega))
              have hsz : t.size ≤ s.size := by omega
              have htp : 1 ≤ t.size := by omega
              clear h0 hbig
              generalize (allL (by_ s) (by_ t) (s.size + 1)).length = T at *
              go_wp2_with (go_at_call 23; refine (HII.out _).mono ?_; rintro e w5 ⟨rfl, hx5⟩)
              obtain ⟨r, hr, hr2⟩ := pick_place at_ s.size t.size hsz htp (by omega)
              rw [hr]
              have hm1 : r + t.size - 1 < s.size := by omega
              have hm2 : ((r : Int) + (t.size : Int) - 1).toNat = r + t.size - 1 := by omega
              have hm3 : (0 : Int) ≤ (r : Int) + (t.size : Int) - 1 := by omega
              have hm4 : (r : Int) + (t.size : Int) - 1 < (s.size : Int) := by omega
              have hbl := s[r + t.size - 1].toNat_lt
              have hix : s[r + t.size - 1].toNat < 256 := by omega
              have hix2 : (s[r + t.size - 1].toNat : Int) < 256 := by omega
              have hix3 : (0 : Int) ≤ (s[r + t.size - 1].toNat : Int) := by omega
              have hw1 : IntKind.i64.wrap ((r : Int) + (t.size : Int)) = (r : Int) + (t.size : Int) := IntWalk.i64_in _ (by omega)
              have hw2 : IntKind.i64.wrap ((r : Int) + (t.size : Int) - 1) = (r : Int) + (t.size : Int) - 1 := IntWalk.i64_in _ (by omega)
              have hsle := shAt_le (by_ t) (t.size - 1) (UInt8.ofNat s[r + t.size - 1].toNat)
              have hspos := shAt_pos (by_ t) (t.size - 1) (UInt8.ofNat s[r + t.size - 1].toNat) (by rw [by_len]; omega)
              rw [by_len] at hsle
              have hskip : ∀ k, fnd (by_ s) (by_ t) (r + 1) = some k → r + shAt (by_ t) (t.size - 1) (UInt8.ofNat s[r + t.size - 1].toNat) ≤ k := by
                intro k hk
                obtain ⟨h1, h2, _⟩ := fnd_some hk
                rcases Nat.lt_or_ge k (r + shAt (by_ t) (t.size - 1) (UInt8.ofNat s[r + t.size - 1].toNat)) with hlt | hge
                · exfalso
                  have := shift_skips (s := by_ s) (t := by_ t) (i := r) (by rw [by_len]; omega) (by rw [by_len, by_len]; omega) k (by omega) (by
                    unfold shift
                    rw [by_len, by_get s _ hm1]
                    have e : UInt8.ofNat s[r + t.size - 1].toNat = s[r + t.size - 1] := by simp
                    rw [← e]; exact hlt)
                  rw [this] at h2
                  cases h2
                · exact hge
              have hcell : ∀ (W : World) (g : Nat), Blk W g 3 (i64s (shTab (by_ t) (t.size - 1))) → W.cell? ⟨g, s[r + t.size - 1].toNat, none⟩ = some (.int .i64 (shAt (by_ t) (t.size - 1) (UInt8.ofNat s[r + t.size - 1].toNat))) := by
                intro W g hW
                rw [hW.cell, i64s_get _ _ (by rw [shTab_len]; exact hix), shTab_get _ _ _ hix]
              have HCELL := Lib.hid hcell
              have HSKIP := Lib.hid hskip
              have hii2 := HI.out ((r : Int) + 1)
              have hip2 : idx s t ((r : Int) + 1) = fI (fnd (by_ s) (by_ t) (r + 1)) := by
                unfold idx
                rw [if_neg (by omega)]
                have e : ((r : Int) + 1).toNat = r + 1 := by omega
                rw [e]
              rw [hip2] at hii2
              have HII2 := Lib.hid hii2
              clear hcell hskip hii2 hip2 hr
              generalize hsv : shAt (by_ t) (t.size - 1) (UInt8.ofNat s[r + t.size - 1].toNat) = sv at *
              have HSV := Lib.hid hsv; clear hsv
              go_cut [12] (fun v wx => v = .int .i64 sv ∧ Ext w wx)
              case first =>
                go_region_with (go_at_call 18; refine (HS.out _).mono ?_; rintro e w6 ⟨g, rfl, hg, hb, hx6⟩; have c6 := HCELL.out _ _ hb; have hy6 : Ext w w6 := (hx.trans hx5).drew.trans hx6)
                all_goals
                  go_wp2
                  go_meet
                  case rel => exact ⟨rfl, hy6⟩
              case rest =>
                obtain ⟨rfl, hxc⟩ := hcut
                have hii3 := HII2.out
                have hs1 : decide ((1 : Int) ≤ (sv : Int)) = true := by simp; omega
                have hs2 : decide ((sv : Int) ≤ (t.size : Int)) = true := by simp; omega
                clear hw1 hw2 hm2
                cases hf2 : fnd (by_ s) (by_ t) (r + 1) with
                | none =>
                  rw [hf2] at hii3
                  have hm1 : fI none = -1 := rfl
                  rw [hm1] at hii3
                  have HI3 := Lib.hid hii3
                  clear hii3 hf2
                  go_wp2_with (go_at_call 23; refine (HI3.out _).mono ?_; rintro e w7 ⟨rfl, hx7⟩)
                  go_ret
                  exact ⟨rfl, hxc.trans hx7⟩
                | some k =>
                  rw [hf2, fI_some] at hii3
                  have hk := HSKIP.out k hf2
                  have hk1 : decide ((k : Int) < 0) = false := by simp
                  have hk2 : (r : Int) + (sv : Int) ≤ (k : Int) := by omega
                  have HI3 := Lib.hid hii3
                  clear hii3 hf2
                  go_wp2_with (go_at_call 23; refine (HI3.out _).mono ?_; rintro e w7 ⟨rfl, hx7⟩)
                  go_ret
                  exact ⟨rfl, hxc.trans hx7⟩
        | some j =>
          rw [hf, fI_some] at hii
          have HII := Lib.hid hii
          obtain ⟨hpj, hsj, _⟩ := fnd_some hf
          have hjs := stands_le hsj
          rw [by_len, by_len] at hjs
          obtain ⟨f', rfl⟩ : ∃ f', f = f' + 1 := ⟨f - 1, by omega⟩
          have hE := hq.out
          rw [eachL_some hf] at hE
          have hlt : acc.length < (allL (by_ s) (by_ t) (s.size + 1)).length := by
            have := congrArg List.length hE
            rw [List.length_append, List.length_cons] at this
            omega
          have hget : (nI (allL (by_ s) (by_ t) (s.size + 1))).getD acc.length 0 = (j : Int) := by
            rw [← hE]
            simp [nI, List.getD_eq_getElem?_getD]
          obtain ⟨g, o, rfl, hc⟩ := HRD.out acc.length (by rw [nI_len]; exact hlt)
          rw [hget] at hc
          have hE2 : (acc ++ [j]) ++ eachL (by_ s) (by_ t) 1 f' (j + 1) = allL (by_ s) (by_ t) (s.size + 1) := by rw [← hE, List.append_assoc]; rfl
          have HE := Lib.hid hE2
          have hcut := cut_stands s t j hjs
          rw [hsj] at hcut
          clear hii hE hE2 hf hsj hq hget
          have hj0 : (0 : Int) ≤ (j : Int) := by omega
          have hj1 : ¬ ((j : Int) < (p : Int)) := by omega
          have hj2 : (j : Int) + (t.size : Int) ≤ (s.size : Int) := by omega
          have hj3 : ((j : Int) + (t.size : Int)).toNat = j + t.size := by omega
          have hj4 : ((acc.length : Int) == ((allL (by_ s) (by_ t) (s.size + 1)).length : Int)) = false := by rw [beq_eq_false_iff_ne]; omega
          have hlen : acc.length + 1 = (acc ++ [j]).length := by simp
          have HLEN := Lib.hid hlen; clear hlen
          generalize (allL (by_ s) (by_ t) (s.size + 1)).length = T at *
          generalize hnn : acc.length = n at *
          have HNN := Lib.hid hnn; clear hnn
          go_wp2_with (go_at_call 23; refine (HII.out _).mono ?_; rintro e w5 ⟨rfl, hx5⟩; have c5 := (hx4r.trans hx5).cell hc)
          go_roundw
          case rel =>
            refine ⟨acc ++ [j], j + 1, f', ?_, by go_num, HE, by omega, by omega, hx.trans hx5, hx4r.trans hx5⟩
            have e := HLEN.out
            rw [← e]
            go_num
          case measure => simp [intOf]; omega
    · have htb : decide ((5000 : Int) < (t.size : Int)) = true := by simp; omega
      go_enter Try.func8, Try.ntmps8
      go_wp2_with (go_at_call 17; refine (seekLives_any _).mono ?_; rintro e w1 ⟨rfl, hx1⟩)
      go_ret
      exact ⟨rfl, hx1⟩
  · have hsb : decide ((5000 : Int) < (s.size : Int)) = true := by simp; omega
    go_enter Try.func8, Try.ntmps8
    go_wp2_with (go_at_call 17; refine (seekLives_any _).mono ?_; rintro e w1 ⟨rfl, hx1⟩)
    go_ret
    exact ⟨rfl, hx1⟩

end Go.Proofs.Ytceolkbekmlhdaa
