/- The reference's functions for seeking, each as a contract. Texts of at most a million bytes. -/
import Derived.Test.YtceolkbekmlhdaaNum
import Derived.Test.YtceolkbekmlhdaaSeekPlain
import Derived.Lib.Strings
namespace Go.Proofs.Ytceolkbekmlhdaa
open Go.RowKit

/-- The bytes of a text. -/
abbrev by_ (s : ByteArray) : List UInt8 := s.data.toList
theorem by_len (s : ByteArray) : (by_ s).length = s.size := by simp [by_]
theorem by_get (s : ByteArray) (k : Nat) (h : k < s.size) : (by_ s).getD k 0 = s[k] := by
  have : k < s.data.toList.length := by simpa using h
  rw [List.getD_eq_getElem?_getD, List.getElem?_eq_getElem this]
  rfl

theorem cut_stands (s t : ByteArray) (i : Nat) (h : i + t.size ≤ s.size) : ((s.extract i (i + t.size)).toList == t.toList) = stands (by_ s) (by_ t) i := by
  rw [ByteArray.toList_eq, ByteArray.toList_eq, Lib.extract_data]
  unfold stands
  rw [by_len, by_len]
  have e1 : decide (i + t.size ≤ s.size) = true := by simpa using h
  have e2 : i + t.size - i = t.size := by omega
  rw [e1, e2, Bool.true_and]

set_option maxHeartbeats 400000 in
theorem stands_any (s t : ByteArray) (i : Nat) (w : World) (hs : s.size ≤ 1000000) (ht : t.size ≤ 1000000) (hi : i ≤ 1000000) :
    Calls Try.prog 32 #[.string s, .string t, .int .i64 i] w fun r w' => r = .returned (.bool (stands (by_ s) (by_ t) i)) ∧ w = w' := by
  by_cases h : i + t.size ≤ s.size
  · have hc := cut_stands s t i h
    have HC := Lib.hid hc; clear hc
    have h0b : decide ((0 : Int) ≤ (i : Int)) = true := by simp
    have h1b : decide ((i : Int) + (t.size : Int) ≤ (s.size : Int)) = true := by simp; omega
    have h1 : (i : Int) + (t.size : Int) ≤ (s.size : Int) := by omega
    have h2 : ((i : Int) + (t.size : Int)).toNat = i + t.size := by omega
    go_enter Try.func32, Try.ntmps32
    go_wp2
    go_ret
    exact ⟨ret_bool (by rw [← HC.out]), rfl⟩
  · have hf : stands (by_ s) (by_ t) i = false := by
      unfold stands
      rw [by_len, by_len]
      have e1 : decide (i + t.size ≤ s.size) = false := by simpa using h
      rw [e1, Bool.false_and]
    have HF := Lib.hid hf; clear hf
    have h0b : decide ((0 : Int) ≤ (i : Int)) = true := by simp
    have h1b : decide ((i : Int) + (t.size : Int) ≤ (s.size : Int)) = false := by simp; omega
    go_enter Try.func32, Try.ntmps32
    go_wp2
    go_ret
    exact ⟨ret_bool (by rw [HF.out]), rfl⟩

/-- What Index answers. -/
def idx (s t : ByteArray) (i : Int) : Int := if i < 0 then -1 else fI (fnd (by_ s) (by_ t) i.toNat)

theorem fnd_far (s t : List UInt8) (i : Nat) (h : s.length < i) : fnd s t i = none := fnd_none fun j hj => by
  cases hs : stands s t j
  · rfl
  · have := stands_le hs; omega

set_option maxHeartbeats 1000000 in
theorem rIndex_any (s t : ByteArray) (i : Int) (w : World) (hs : s.size ≤ 1000000) (ht : t.size ≤ 1000000) :
    Calls Try.prog 24 #[.string s, .string t, .int .i64 i] w fun r w' => r = .returned (.int .i64 (idx s t i)) ∧ w = w' := by
  have HS := Lib.hid (fun i W hi => stands_any s t i W hs ht hi)
  by_cases h0 : i < 0
  · have hf : idx s t i = -1 := by unfold idx; rw [if_pos h0]
    have HF := Lib.hid hf; clear hf
    go_enter Try.func24, Try.ntmps24
    go_wp2
    go_ret
    exact ⟨ret_int HF.out.symm, rfl⟩
  · obtain ⟨n, rfl⟩ := Int.eq_ofNat_of_zero_le (show 0 ≤ i by omega)
    have hf : idx s t n = fI (fnd (by_ s) (by_ t) n) := by unfold idx; rw [if_neg h0, Int.toNat_natCast]
    have HF := Lib.hid hf; clear hf
    go_enter Try.func24, Try.ntmps24
    go_wp2
    go_loop [7, 8] (fun i _ => ∃ p : Nat, i = .int .i64 p ∧ Hid (fnd (by_ s) (by_ t) n = fnd (by_ s) (by_ t) p) ∧ (p ≤ s.size + 1 ∨ p = n)) (fun i _ => s.size + 1 - (intOf i).toNat)
    case atStart => exact ⟨n, rfl, Lib.hid rfl, .inr rfl⟩
    case round =>
      obtain ⟨p, rfl, hq, hp⟩ := hrel
      by_cases hlt : p ≤ s.size
      · have hp1 : p ≤ 1000000 := by omega
        clear hp
        cases hst : stands (by_ s) (by_ t) p
        · have HT := Lib.hid hst; clear hst
          go_wp2_with (go_at_call 32; refine (HS.out _ _ hp1).mono ?_; rw [HT.out]; rintro e w2 ⟨rfl, rfl⟩)
          go_round
          case rel => exact ⟨p + 1, by go_num, Lib.hid (by rw [hq.out, fnd_miss HT.out]), .inl (by omega)⟩
          case measure => simp [intOf]; omega
        · have HT := Lib.hid hst; clear hst
          go_wp2_with (go_at_call 32; refine (HS.out _ _ hp1).mono ?_; rw [HT.out]; rintro e w2 ⟨rfl, rfl⟩)
          go_ret
          exact ⟨ret_int (by rw [HF.out, hq.out, fnd_hit HT.out]; rfl), rfl⟩
      · clear hp
        go_wp2
        go_ret
        exact ⟨ret_int (by rw [HF.out, hq.out, fnd_far _ _ _ (by rw [by_len]; omega)]; rfl), rfl⟩

/-- The places as ints. -/
def nI (l : List Nat) : List Int := List.map (fun (k : Nat) => (k : Int)) l
@[simp] theorem nI_len (l : List Nat) : (nI l).length = l.length := by simp [nI]
theorem allL_len (s t : List UInt8) (k : Nat) : (allL s t k).length ≤ k := by
  unfold allL
  have := List.length_filter_le (stands s t) (List.range k)
  simpa using this

set_option maxHeartbeats 1000000 in
theorem rAll_any (s t : ByteArray) (w : World) (hs : s.size ≤ 1000000) (ht : t.size ≤ 1000000) :
    Calls Try.prog 22 #[.string s, .string t] w fun r w' => (∃ v, r = .returned v ∧ Own1 w' w.heap.size 3 v (cI (nI (allL (by_ s) (by_ t) (s.size + 1))))) ∧ Ext w w' := by
  have HS := Lib.hid (fun i W hi => stands_any s t i W hs ht hi)
  go_enter Try.func22, Try.ntmps22
  go_wp2
  go_loopw [5, 6, 7] (fun v i _ wr => ∃ k : Nat, k ≤ s.size + 1 ∧ i = .int .i64 k ∧ Own1 wr w.heap.size 3 v (cI (nI (allL (by_ s) (by_ t) k))) ∧ Ext w wr) (fun _ i _ _ => s.size + 1 - (intOf i).toNat)
  case atStart => exact ⟨0, Nat.zero_le _, rfl, Own1.nil _ _ _, Ext.refl _⟩
  case round =>
    obtain ⟨k, hk, rfl, hown, hx⟩ := hrel
    have hl : (cI (nI (allL (by_ s) (by_ t) k))).length ≤ 1000001 := by rw [cI_len, nI_len]; have := allL_len (by_ s) (by_ t) k; omega
    by_cases hlt : k ≤ s.size
    · have hp1 : k ≤ 1000000 := by omega
      cases hst : stands (by_ s) (by_ t) k
      · have HT := Lib.hid hst; clear hst
        go_wp2_with (go_at_call 32; refine (HS.out _ _ hp1).mono ?_; rw [HT.out]; rintro e w2 ⟨rfl, rfl⟩)
        go_roundw
        case rel => exact ⟨k + 1, by omega, by go_num, by rw [allL_succ, HT.out]; simpa using hown, hx⟩
        case measure => simp [intOf]; omega
      · have HT := Lib.hid hst; clear hst
        have hsz := hx.size
        go_wp2_with (first
          | (go_at_call 32; refine (HS.out _ _ hp1).mono ?_; rw [HT.out]; rintro e w2 ⟨rfl, rfl⟩)
          | (at_builtin; refine wpList_app1 rfl (.tmp 19) (.tmp 21) 33 rfl w.heap.size 3 (.int .i64 0) 8 Try.underlying33 info_int rfl _ _ rfl (hown.ext ((Ext.refl wr).alloc _)) wr.heap.size 1 (.int .i64 (k : Int)) rfl (by simp) rfl (by omega) (by omega) (by simp; omega) ?_; intro v3 w3 hown3 hb3))
        go_roundw
        case rel => exact ⟨k + 1, by omega, by go_num, by rw [allL_succ, HT.out]; simpa [cI, nI] using hown3, (hx.alloc _).of_below hb3 (Nat.le_refl _)⟩
        case measure => simp [intOf]; omega
    · have hks : k = s.size + 1 := by omega
      subst hks
      go_wp2
      go_ret
      exact ⟨⟨_, rfl, hown⟩, hx⟩

/-- How often, one behind the other. -/
def cnt (s t : ByteArray) : Nat := if t.size = 0 then 0 else (eachL (by_ s) (by_ t) t.size (s.size + 2) 0).length

theorem eachL_len (s t : List UInt8) (step : Nat) : ∀ f p, (eachL s t step f p).length ≤ f
  | 0, _ => Nat.le_refl _
  | f + 1, p => by
    unfold eachL
    split
    · simp
    · simp only [List.length_cons]; have := eachL_len s t step f; have := this; exact Nat.succ_le_succ (eachL_len s t step f _)

theorem str_empty (t : ByteArray) : (t.toList == (ByteArray.mk #[]).toList) = decide (t.size = 0) := by
  rw [ByteArray.toList_eq, ByteArray.toList_eq, Bool.eq_iff_iff, beq_iff_eq, decide_eq_true_eq]
  have : t.data.toList.length = t.size := by simp
  constructor
  · intro h; rw [← this, h]; rfl
  · intro h; exact List.eq_nil_of_length_eq_zero (by omega)

set_option maxHeartbeats 1000000 in
theorem rCount_any (s t : ByteArray) (w : World) (hs : s.size ≤ 1000000) (ht : t.size ≤ 1000000) :
    Calls Try.prog 26 #[.string s, .string t] w fun r w' => r = .returned (.int .i64 (cnt s t)) ∧ w = w' := by
  have HS := Lib.hid (fun i W hi => stands_any s t i W hs ht hi)
  have hse := str_empty t
  by_cases h0 : t.size = 0
  · have hf : cnt s t = 0 := by unfold cnt; rw [if_pos h0]
    have HF := Lib.hid hf
    have hse2 : t.toList.isEmpty = true := by
      rw [ByteArray.toList_eq]
      have : t.data.toList.length = t.size := by simp
      rw [List.isEmpty_iff_length_eq_zero]; omega
    clear hf hse h0
    go_enter Try.func26, Try.ntmps26
    go_wp2
    go_ret
    exact ⟨ret_int (by rw [HF.out]; rfl), rfl⟩
  · have hf : cnt s t = (eachL (by_ s) (by_ t) t.size (s.size + 2) 0).length := by unfold cnt; rw [if_neg h0]
    have HF := Lib.hid hf
    have hse2 : t.toList.isEmpty = false := by
      rw [ByteArray.toList_eq]
      have : t.data.toList.length = t.size := by simp
      rw [Bool.eq_false_iff]
      intro h
      rw [List.isEmpty_iff_length_eq_zero] at h; omega
    have htp : 1 ≤ t.size := by omega
    clear hf hse h0
    go_enter Try.func26, Try.ntmps26
    go_wp2
    go_loop [5, 6, 7] (fun n i _ => ∃ a p f : Nat, n = .int .i64 a ∧ i = .int .i64 p ∧ Hid (a + (eachL (by_ s) (by_ t) t.size f p).length = (eachL (by_ s) (by_ t) t.size (s.size + 2) 0).length) ∧ s.size + 2 ≤ f + p ∧ p ≤ s.size + 1 + t.size ∧ a ≤ p) (fun _ i _ => s.size + 1 - (intOf i).toNat)
    case atStart => exact ⟨0, 0, s.size + 2, rfl, rfl, Lib.hid (by omega), by omega, by omega, Nat.le_refl _⟩
    case round =>
      obtain ⟨a, p, f, rfl, rfl, hq, hfp, hp, hap⟩ := hrel
      by_cases hlt : p ≤ s.size
      · have hp1 : p ≤ 1000000 := by omega
        cases hst : stands (by_ s) (by_ t) p
        · have HT := Lib.hid hst; clear hst
          go_wp2_with (go_at_call 32; refine (HS.out _ _ hp1).mono ?_; rw [HT.out]; rintro e w2 ⟨rfl, rfl⟩)
          go_round
          case rel => exact ⟨a, p + 1, f, rfl, by go_num, Lib.hid (by rw [← hq.out, eachL_miss HT.out]), by omega, by omega, by omega⟩
          case measure => simp [intOf]; omega
        · have HT := Lib.hid hst; clear hst
          obtain ⟨f', rfl⟩ : ∃ f', f = f' + 1 := ⟨f - 1, by omega⟩
          go_wp2_with (go_at_call 32; refine (HS.out _ _ hp1).mono ?_; rw [HT.out]; rintro e w2 ⟨rfl, rfl⟩)
          go_round
          case rel => exact ⟨a + 1, p + t.size, f', by go_num, by go_num, Lib.hid (by rw [← hq.out, eachL_some (fnd_hit HT.out), List.length_cons]; omega), by omega, by omega, by omega⟩
          case measure => simp [intOf]; omega
      · have hn : fnd (by_ s) (by_ t) p = none := fnd_far _ _ _ (by rw [by_len]; omega)
        have hq2 : a = cnt s t := by rw [HF.out, ← hq.out, eachL_none hn]; rfl
        have HQ := Lib.hid hq2
        clear hn hq2
        go_wp2
        go_ret
        exact ⟨ret_int (by rw [HQ.out]), rfl⟩

end Go.Proofs.Ytceolkbekmlhdaa
