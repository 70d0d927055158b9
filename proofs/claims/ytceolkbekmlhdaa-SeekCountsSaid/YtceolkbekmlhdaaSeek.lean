/- The program's functions for seeking, each as a contract. Texts of at most a million bytes. -/
import Derived.Test.YtceolkbekmlhdaaSeekShift
namespace Go.Proofs.Ytceolkbekmlhdaa
open Go.RowKit

theorem mismatch {s t : List UInt8} {p n : Nat} (hn : n < t.length) (h : s.getD (p + n) 0 ≠ t.getD n 0) : stands s t p = false := by
  cases hs : stands s t p
  · rfl
  · exfalso
    apply h
    have := ((stands_iff s t p).1 hs).2 n hn
    rw [List.getD_eq_getElem?_getD, List.getD_eq_getElem?_getD, this]

theorem all_stands {s t : ByteArray} {p : Nat} (h : p + t.size ≤ s.size) (hall : ∀ j : Nat, (-1 : Int) < j → j < t.size → (by_ s).getD (p + j) 0 = (by_ t).getD j 0) : stands (by_ s) (by_ t) p = true := by
  rw [stands_iff]
  refine ⟨by rw [by_len, by_len]; exact h, fun j hj => ?_⟩
  rw [by_len] at hj
  have h2 := hall j (by omega) hj
  rw [by_get s _ (by omega), by_get t _ hj] at h2
  rw [List.getElem?_eq_getElem (by rw [by_len]; omega), List.getElem?_eq_getElem (by rw [by_len]; omega)]
  exact congrArg some h2

set_option maxRecDepth 100000 in
set_option maxHeartbeats 4000000 in
theorem found_any (s t : ByteArray) (a : Nat) (g : Nat) (w : World) (hs : s.size ≤ 1000000) (ht : t.size ≤ 1000000) (h1 : 1 ≤ t.size) (_ha : a ≤ 3000000) (hg : Blk w g 3 (i64s (shTab (by_ t) (t.size - 1)))) :
    Calls Try.prog 33 #[.string s, .string t, .int .i64 a, .slice (some ⟨g, 0, none⟩) 256 256] w fun r w' => r = .returned (.int .i64 (fI (fnd (by_ s) (by_ t) a))) ∧ Ext w w' := by
  go_enter Try.func33, Try.ntmps33
  go_wp2
  go_loopw [10] (fun i wr => ∃ p : Nat, i = .int .i64 p ∧ Hid (fnd (by_ s) (by_ t) a = fnd (by_ s) (by_ t) p) ∧ Hid (p ≤ s.size ∨ p = a) ∧ Ext w wr) (fun i _ => s.size + 1 - (intOf i).toNat)
  case atStart => exact ⟨a, rfl, Lib.hid rfl, Lib.hid (.inr rfl), Ext.refl _⟩
  case round =>
    obtain ⟨p, rfl, hq, hp, hx⟩ := hrel
    by_cases hlt : p + t.size ≤ s.size
    · have hb1 : (p : Int) ≤ (s.size : Int) - (t.size : Int) := by omega
      go_wp2
      go_loopw [11] (fun k wr' => ∃ q : Int, -1 ≤ q ∧ q < t.size ∧ k = .int .i64 q ∧ Hid (∀ j : Nat, q < j → j < t.size → (by_ s).getD (p + j) 0 = (by_ t).getD j 0) ∧ Ext w wr') (fun k _ => (intOf k + 1).toNat)
      case atStart => exact ⟨(t.size : Int) - 1, by omega, by omega, rfl, Lib.hid (fun j h1 h2 => by omega), hx⟩
      case round =>
        clear hx
        obtain ⟨q, hq0, hq1, rfl, hall, hx⟩ := hrel
        by_cases h0 : 0 ≤ q
        · obtain ⟨n, rfl⟩ := Int.eq_ofNat_of_zero_le h0
          have hn1 : n < t.size := by omega
          have hn2 : p + n < s.size := by omega
          have h0b : decide ((0 : Int) ≤ (n : Int)) = true := by simp
          have hi1 : (p : Int) + (n : Int) < (s.size : Int) := by omega
          have hi2 : ((p : Int) + (n : Int)).toNat = p + n := by omega
          have GS := Lib.hid (by_get s (p + n) hn2)
          have GT := Lib.hid (by_get t n hn1)
          have hwr : IntKind.i64.wrap ((p : Int) + (n : Int)) = (p : Int) + (n : Int) := IntWalk.i64_in _ (by omega)
          have hi0 : (0 : Int) ≤ (p : Int) + (n : Int) := by omega
          go_wp2
          refine wp_region_plus (by kernel_rfl) (by kernel_rfl) ?_
          repeat (go_big_quiet_step (fail))
          refine wpQuiet_nil ?_
          intro y
          clear hwr
          by_cases hb : s[p + n].toNat = t[n].toNat
          · have hbb : ((s[p + n].toNat : Int) == (t[n].toNat : Int)) = true := by rw [hb]; simp
            have HB := Lib.hid hb; clear hb
            go_wp2
            go_roundw
            case rel =>
              refine ⟨(n : Int) - 1, by omega, by omega, rfl, Lib.hid (fun j hj1 hj2 => ?_), hx.trans (plus_ext _ y)⟩
              rcases Nat.lt_or_ge n j with hj | hj
              · exact hall.out j (by omega) hj2
              · have e : j = n := by omega
                rw [e, GS.out, GT.out]
                exact UInt8.toNat_inj.1 HB.out
            case measure => simp [intOf]
          · have hbb : ((s[p + n].toNat : Int) == (t[n].toNat : Int)) = false := by rw [beq_eq_false_iff_ne]; omega
            have hst : stands (by_ s) (by_ t) p = false := mismatch (n := n) (by rw [by_len]; exact hn1) (by rw [GS.out, GT.out]; intro e; exact hb (by rw [e])) 
            have HB := Lib.hid hb; clear hb
            have HST := Lib.hid hst; clear hst
            have hk0 : ¬ ((n : Int) < 0) := by omega
            have hm1 : p + t.size - 1 < s.size := by omega
            have hm2 : ((p : Int) + (t.size : Int) - 1).toNat = p + t.size - 1 := by omega
            have hm3 : (0 : Int) ≤ (p : Int) + (t.size : Int) - 1 := by omega
            have hm4 : (p : Int) + (t.size : Int) - 1 < (s.size : Int) := by omega
            have hbl := s[p + t.size - 1].toNat_lt
            have hix : s[p + t.size - 1].toNat < 256 := by omega
            have hgy := hg.ext (hx.trans (plus_ext _ y))
            have c2 := hgy.cell s[p + t.size - 1].toNat
            rw [i64s_get _ _ (by rw [shTab_len]; exact hix), shTab_get _ _ _ hix] at c2
            have hsle := shAt_le (by_ t) (t.size - 1) (UInt8.ofNat s[p + t.size - 1].toNat)
            have hspos := shAt_pos (by_ t) (t.size - 1) (UInt8.ofNat s[p + t.size - 1].toNat) (by rw [by_len]; omega)
            rw [by_len] at hsle
            have HSH := Lib.hid (fnd_shift (s := by_ s) (t := by_ t) (i := p) (by rw [by_len]; omega) (by rw [by_len, by_len]; exact hlt) HST.out)
            have GM := Lib.hid (by_get s (p + t.size - 1) hm1)
            generalize hsv : shAt (by_ t) (t.size - 1) (UInt8.ofNat s[p + t.size - 1].toNat) = sv at *
            have HSV := Lib.hid hsv; clear hsv
            go_wp2
            go_roundw
            case rel =>
              refine ⟨p + sv, by go_num, Lib.hid ?_, Lib.hid (.inl (by omega)), hx.trans (plus_ext _ y)⟩
              rw [hq.out, HSH.out]
              unfold shift
              rw [by_len, GM.out]
              have e : UInt8.ofNat s[p + t.size - 1].toNat = s[p + t.size - 1] := by simp
              rw [← HSV.out, e]
            case measure => simp [intOf]; omega
        · obtain rfl : q = -1 := by omega
          have hst : stands (by_ s) (by_ t) p = true := all_stands hlt hall.out
          have HST := Lib.hid hst
          clear hst hq0 hq1 h0 hall
          go_wp2
          refine wp_region_plus (by kernel_rfl) (by kernel_rfl) ?_
          repeat (go_big_quiet_step (fail))
          refine wpQuiet_nil ?_
          intro y
          go_wp2
          go_ret
          exact ⟨ret_int (by rw [hq.out, fnd_hit HST.out]; rfl), hx.trans (plus_ext _ y)⟩
    · have hb1 : ¬ (p : Int) ≤ (s.size : Int) - (t.size : Int) := by omega
      go_wp2
      go_ret
      exact ⟨ret_int (by rw [hq.out, fnd_end (by rw [by_len, by_len]; omega)]; rfl), hx⟩

set_option maxHeartbeats 1000000 in
theorem index_any (s t : ByteArray) (i : Int) (w : World) (hs : s.size ≤ 1000000) (ht : t.size ≤ 1000000) :
    Calls Try.prog 23 #[.string s, .string t, .int .i64 i] w fun r w' => r = .returned (.int .i64 (idx s t i)) ∧ Ext w w' := by
  by_cases h0 : i < 0
  · have hf : idx s t i = -1 := by unfold idx; rw [if_pos h0]
    have HF := Lib.hid hf; clear hf
    have h0b : decide (i < 0) = true := by simpa using h0
    go_enter Try.func23, Try.ntmps23
    go_wp2
    go_ret
    exact ⟨ret_int HF.out.symm, Ext.refl _⟩
  · obtain ⟨n, rfl⟩ := Int.eq_ofNat_of_zero_le (show 0 ≤ i by omega)
    have hf : idx s t n = fI (fnd (by_ s) (by_ t) n) := by unfold idx; rw [if_neg h0, Int.toNat_natCast]
    have HF := Lib.hid hf; clear hf
    have h0b : decide ((n : Int) < 0) = false := by simp
    by_cases h1 : n ≤ s.size
    · have h1b : decide ((s.size : Int) < (n : Int)) = false := by simp; omega
      by_cases h2 : t.size = 0
      · have he := isEmpty_of h2
        have hst : stands (by_ s) (by_ t) n = true := by
          have : by_ t = [] := List.eq_nil_of_length_eq_zero (by rw [by_len]; exact h2)
          rw [this]
          exact stands_empty _ _ (by rw [by_len]; exact h1)
        have HST := Lib.hid hst; clear hst h2
        go_enter Try.func23, Try.ntmps23
        go_wp2
        go_ret
        exact ⟨ret_int (by rw [HF.out, fnd_hit HST.out]; rfl), Ext.refl _⟩
      · have he := isEmpty_not h2
        have htp : 1 ≤ t.size := by omega
        have HS := Lib.hid (fun W => shifts_any t W ht)
        have H2 := Lib.hid h2
        clear h2
        go_enter Try.func23, Try.ntmps23
        go_wp2_with fail
        refine (HS.out _).mono ?_
        rintro e w1 ⟨hr | ⟨_, g, rfl, hg, hb⟩, hx⟩
        · exact absurd hr.1 H2.out
        · go_wp2_with (go_at_call 33; refine (found_any s t n g _ hs ht htp (by omega) hb).mono ?_; rintro e w2 ⟨rfl, hx2⟩)
          go_ret
          exact ⟨ret_int HF.out.symm, hx.trans hx2⟩
    · have h1b : decide ((s.size : Int) < (n : Int)) = true := by simp; omega
      have hn : fnd (by_ s) (by_ t) n = none := fnd_far _ _ _ (by rw [by_len]; omega)
      have HN := Lib.hid hn; clear hn
      go_enter Try.func23, Try.ntmps23
      go_wp2
      go_ret
      exact ⟨ret_int (by rw [HF.out, HN.out]; rfl), Ext.refl _⟩

/-- What each answers. -/
def eachR (s t : ByteArray) (step : Nat) : List Nat := if t.size = 0 then List.range (s.size + 1) else eachL (by_ s) (by_ t) step (s.size + 2) 0

theorem fI_some (j : Nat) : fI (some j) = j := rfl
theorem fI_lt {o : Option Nat} (h : fI o < 0) : o = none := by
  cases o with
  | none => rfl
  | some j => rw [fI_some] at h; omega
theorem fI_ge {o : Option Nat} (h : ¬ fI o < 0) : ∃ j, o = some j := by
  cases o with
  | none => exact absurd (by decide) h
  | some j => exact ⟨j, rfl⟩

theorem each_measure (o : Option Nat) (j step n : Nat) (h : ∀ k, o = some k → j + step ≤ k) (hs : 1 ≤ step) (hj : j ≤ n) :
    (if fI o < 0 then 0 else n + 1 - (fI o).toNat) < (if (j : Int) < 0 then 0 else n + 1 - (j : Int).toNat) := by
  have e2 : (if (j : Int) < 0 then 0 else n + 1 - (j : Int).toNat) = n + 1 - j := by
    rw [if_neg (show ¬ (j : Int) < 0 from by omega), Int.toNat_natCast]
  rw [e2]
  cases o with
  | none => rw [if_pos (show fI none < 0 from by decide)]; omega
  | some k =>
    have := h k rfl
    rw [fI_some, if_neg (show ¬ (k : Int) < 0 from by omega), Int.toNat_natCast]; omega

set_option maxRecDepth 100000 in
set_option maxHeartbeats 2000000 in
theorem each_any (s t : ByteArray) (step : Nat) (w : World) (hs : s.size ≤ 1000000) (ht : t.size ≤ 1000000) (h1 : 1 ≤ step ∨ t.size = 0) (h2 : step ≤ 1000000) :
    Calls Try.prog 31 #[.string s, .string t, .int .i64 step] w fun r w' => (∃ v, r = .returned v ∧ Own1 w' w.heap.size 3 v (cI (nI (eachR s t step)))) ∧ Ext w w' := by
  by_cases h0 : t.size = 0
  · have he := isEmpty_of h0
    have hf : eachR s t step = List.range (s.size + 1) := by unfold eachR; rw [if_pos h0]
    have HF := Lib.hid hf
    clear hf h0 h1
    go_enter Try.func31, Try.ntmps31
    go_wp2
    go_loopw [7, 8] (fun v i wr => ∃ k : Nat, k ≤ s.size + 1 ∧ i = .int .i64 k ∧ Own1 wr w.heap.size 3 v (cI (nI (List.range k))) ∧ Ext w wr) (fun _ i _ => s.size + 1 - (intOf i).toNat)
    case atStart => exact ⟨0, Nat.zero_le _, rfl, Own1.nil _ _ _, Ext.refl _⟩
    case round =>
      obtain ⟨k, hk, rfl, hown, hx⟩ := hrel
      have hl : (cI (nI (List.range k))).length ≤ 1000001 := by rw [cI_len, nI_len, List.length_range]; omega
      by_cases hlt : k ≤ s.size
      · have hsz := hx.size
        go_wp2_with (at_builtin; refine wpList_app1 rfl (.tmp 19) (.tmp 21) 33 rfl w.heap.size 3 (.int .i64 0) 8 Try.underlying33 info_int rfl _ _ rfl (hown.ext ((Ext.refl wr).alloc _)) wr.heap.size 1 (.int .i64 (k : Int)) rfl (by simp) rfl (by omega) (by omega) (by simp; omega) ?_; intro v3 w3 hown3 hb3)
        go_roundw
        case rel => exact ⟨k + 1, by omega, by go_num, by rw [List.range_succ]; simpa [cI, nI] using hown3, (hx.alloc _).of_below hb3 (Nat.le_refl _)⟩
        case measure => simp [intOf]; omega
      · have hks : k = s.size + 1 := by omega
        subst hks
        go_wp2
        go_ret
        exact ⟨⟨_, rfl, by rw [HF.out]; exact hown⟩, hx⟩
  · have he := isEmpty_not h0
    have hf : eachR s t step = eachL (by_ s) (by_ t) step (s.size + 2) 0 := by unfold eachR; rw [if_neg h0]
    have HF := Lib.hid hf
    have htp : 1 ≤ t.size := by omega
    have hst : 1 ≤ step := by omega
    have HS := Lib.hid (fun W => shifts_any t W ht)
    have H0 := Lib.hid h0
    clear hf h0 h1
    go_enter Try.func31, Try.ntmps31
    go_wp2_with fail
    refine (HS.out _).mono ?_
    rintro e w1 ⟨hr | ⟨_, g, rfl, hg, hb⟩, hx⟩
    · exact absurd hr.1 H0.out
    · go_wp2_with (go_at_call 33; refine (found_any s t 0 g _ hs ht htp (by omega) hb).mono ?_; rintro e w2 ⟨rfl, hx2⟩)
      have hxx := hx.trans hx2
      have hbb := hb.ext hx2
      clear hx hx2 hb HS
      go_loopw [7, 10] (fun v i wr => ∃ p f : Nat, i = .int .i64 (fI (fnd (by_ s) (by_ t) p)) ∧ (∃ acc : List Nat, Own1 wr w2.heap.size 3 v (cI (nI acc)) ∧ acc ++ eachL (by_ s) (by_ t) step f p = eachL (by_ s) (by_ t) step (s.size + 2) 0) ∧ s.size + 2 ≤ f + p ∧ Ext w2 wr) (fun _ i _ => if intOf i < 0 then 0 else s.size + 1 - (intOf i).toNat)
      case atStart => exact ⟨0, s.size + 2, rfl, ⟨[], Own1.nil _ _ _, rfl⟩, by omega, Ext.refl _⟩
      case round =>
        obtain ⟨p, f, rfl, ⟨acc, hown, hacc⟩, hfp, hx⟩ := hrel
        have HA := Lib.hid hacc; clear hacc
        by_cases hneg : fI (fnd (by_ s) (by_ t) p) < 0
        · have hn := fI_lt hneg
          rw [hn] at hneg ⊢
          have e : eachL (by_ s) (by_ t) step f p = [] := eachL_none hn
          have E := Lib.hid e; clear e hn hneg
          show Code.wp _ _ _ _ _
          have hm1 : fI none = -1 := rfl
          rw [hm1]
          go_wp2
          go_ret
          refine ⟨⟨_, rfl, ?_⟩, hxx.trans hx⟩
          have := HA.out
          rw [E.out, List.append_nil] at this
          rw [HF.out, ← this]
          exact hown.mono hxx.size
        · obtain ⟨j, hj⟩ := fI_ge hneg
          obtain ⟨hpj, hsj, _⟩ := fnd_some hj
          have hjs := stands_le hsj
          rw [by_len, by_len] at hjs
          obtain ⟨f', rfl⟩ : ∃ f', f = f' + 1 := ⟨f - 1, by omega⟩
          have hE := HA.out
          rw [eachL_some hj] at hE
          have hlen : acc.length ≤ s.size + 2 := by
            have h1 := congrArg List.length HA.out
            rw [List.length_append] at h1
            have h2 := eachL_len (by_ s) (by_ t) step (s.size + 2) 0
            omega
          have hl : (cI (nI acc)).length ≤ 1000002 := by rw [cI_len, nI_len]; omega
          have hE2 : (acc ++ [j]) ++ eachL (by_ s) (by_ t) step f' (j + step) = eachL (by_ s) (by_ t) step (s.size + 2) 0 := by
            rw [← hE, List.append_assoc]; rfl
          have HE := Lib.hid hE2
          have hfd : ∀ W, Blk W g 3 (i64s (shTab (by_ t) (t.size - 1))) → Calls Try.prog 33 #[.string s, .string t, .int .i64 ((j : Int) + (step : Int)), .slice (some ⟨g, 0, none⟩) 256 256] W fun r w' => r = .returned (.int .i64 (fI (fnd (by_ s) (by_ t) (j + step)))) ∧ Ext W w' := by
            intro W hW
            have := found_any s t (j + step) g W hs ht htp (by omega) hW
            rwa [Int.natCast_add] at this
          have HFD := Lib.hid hfd
          have hsz := hxx.size
          have hsz2 := hx.size
          rw [hj, fI_some]
          clear hfd hE hE2 hlen hj hsj hneg HA
          have hj0 : (0 : Int) ≤ (j : Int) := by omega
          go_wp2_with (first
            | (at_builtin; refine wpList_app1 rfl (.tmp 39) (.tmp 41) 33 rfl w2.heap.size 3 (.int .i64 0) 8 Try.underlying33 info_int rfl _ _ rfl (hown.ext ((Ext.refl wr).alloc _)) wr.heap.size 1 (.int .i64 (j : Int)) rfl (by simp) rfl (by omega) (by omega) (by simp; omega) ?_; intro v3 w3 hown3 hb3)
            | (go_at_call 33; refine (HFD.out _ (Blk.below (hbb.ext (hx.alloc _)) hb3 hbb.lt)).mono ?_; rintro e w4 ⟨rfl, hx4⟩))
          go_roundw
          case rel =>
            refine ⟨j + step, f', rfl, ⟨acc ++ [j], ?_, HE.out⟩, by omega, ((hx.alloc _).of_below hb3 (Nat.le_refl _)).trans hx4⟩
            have := hown3.ext hx4
            simpa [cI, nI] using this
          case measure =>
            simp only [intOf]
            exact each_measure _ j step s.size (fun k hk => (fnd_some hk).1) hst (by omega)

theorem range_allL (s : List UInt8) (k : Nat) (h : k ≤ s.length + 1) : List.range k = allL s [] k := by
  unfold allL
  rw [List.filter_eq_self.2]
  intro x hx
  rw [List.mem_range] at hx
  exact stands_empty s x (by omega)
theorem eachR_all (s t : ByteArray) : eachR s t 1 = allL (by_ s) (by_ t) (s.size + 1) := by
  unfold eachR
  by_cases h : t.size = 0
  · rw [if_pos h]
    have : by_ t = [] := List.eq_nil_of_length_eq_zero (by rw [by_len]; exact h)
    rw [this]
    exact range_allL _ _ (by rw [by_len]; exact Nat.le_refl _)
  · rw [if_neg h]
    have := eachL_all (by_ s) (by_ t) (s.size + 1) (s.size + 2) 0 (by rw [by_len]; omega) (by rw [by_len]; omega)
    rw [by_len, Nat.max_eq_right (by omega)] at this
    exact this

set_option maxHeartbeats 400000 in
theorem all_any (s t : ByteArray) (w : World) (hs : s.size ≤ 1000000) (ht : t.size ≤ 1000000) :
    Calls Try.prog 21 #[.string s, .string t] w fun r w' => (∃ v, r = .returned v ∧ Own1 w' w.heap.size 3 v (cI (nI (allL (by_ s) (by_ t) (s.size + 1))))) ∧ Ext w w' := by
  have h := fun W => each_any s t 1 W hs ht (.inl (Nat.le_refl _)) (by omega)
  rw [eachR_all] at h
  have H := Lib.hid h; clear h
  go_enter Try.func21, Try.ntmps21
  go_wp2_with (go_at_call 31; refine (H.out _).mono ?_; rintro e w1 ⟨⟨v, rfl, hv⟩, hx⟩)
  go_ret
  exact ⟨⟨_, rfl, hv⟩, hx⟩

set_option maxHeartbeats 400000 in
theorem count_any (s t : ByteArray) (w : World) (hs : s.size ≤ 1000000) (ht : t.size ≤ 1000000) :
    Calls Try.prog 25 #[.string s, .string t] w fun r w' => r = .returned (.int .i64 (cnt s t)) ∧ Ext w w' := by
  by_cases h0 : t.size = 0
  · have hf : cnt s t = 0 := by unfold cnt; rw [if_pos h0]
    have HF := Lib.hid hf
    have he := isEmpty_of h0
    clear hf h0
    go_enter Try.func25, Try.ntmps25
    go_wp2
    go_ret
    exact ⟨ret_int (by rw [HF.out]; rfl), Ext.refl _⟩
  · have hf : (eachR s t t.size).length = cnt s t := by unfold cnt eachR; rw [if_neg h0, if_neg h0]
    have HF := Lib.hid hf
    have he := isEmpty_not h0
    have H := Lib.hid (fun W => each_any s t t.size W hs ht (.inl (by omega)) ht)
    clear hf h0
    go_enter Try.func25, Try.ntmps25
    go_wp2_with (go_at_call 31; refine (H.out _).mono ?_; rintro e w1 ⟨⟨v, rfl, hv⟩, hx⟩; obtain ⟨A, c, rfl, hc⟩ := RdI.of_own hv; clear hc)
    go_ret
    exact ⟨ret_int (by rw [← HF.out, ← nI_len]), hx⟩

end Go.Proofs.Ytceolkbekmlhdaa
