/- What a leaf takes, by the scene's marks; what the closures add is what a leaf leads to. No condition. places.each with the closure of marks (lead$2) as a contract: what each place adds is added. Conditions: the words lie in memory, the library's table too; the closure's contract. places.each with the closure of bytes (lead$1) as a contract: what each place adds is added. Conditions: the words lie in memory, the library's table too; the closure's contract. A repeat's rounds come to an end: so many of them lead to new places at most. No program. -/
import Derived.Test.YtgfknlkpdiejgaaGreatDoorZRankedSpansAM
import Derived.Test.YtgfknlkpdiejgaaGreatDoorFst
import Derived.Test.YtgfknlkpdiejgaaGreatDoorZRankedSpansAH
namespace Go.Proofs.YtgfknlkpdiejgaaGreatDoor
open Go Go.RowKit

def lfM (s : ByteArray) (m : List UInt8) (h : Hd) (a b : Int) : Bool :=
  decide (0 ≤ a) && decide (b ≤ s.size) && (if h.kind = 3 then decide (a = b) && (bits .and .i64 (sMark m a) 1 != 0)
    else if h.kind = 4 then decide (a = b) && (bits .and .i64 (sMark m a) 2 != 0)
    else if h.kind = 2 then decide (a < s.size) && decide (b = a + 1) && h.set (s.data.toList.getD a.toNat 0).toNat
    else decide (a = b))
theorem lfM_ok (s : ByteArray) (m : List UInt8) : LOk s.size (lfM s m) := fun h a b hL => by
  unfold lfM at hL
  simp only [Bool.and_eq_true, decide_eq_true_eq] at hL
  obtain ⟨⟨h1, h2⟩, h3⟩ := hL
  split at h3
  · simp only [Bool.and_eq_true, decide_eq_true_eq] at h3
    omega
  · split at h3
    · simp only [Bool.and_eq_true, decide_eq_true_eq] at h3
      omega
    · split at h3
      · simp only [Bool.and_eq_true, decide_eq_true_eq] at h3
        omega
      · simp only [decide_eq_true_eq] at h3
        omega
theorem tk_byte {s : ByteArray} {m : List UInt8} {h : Hd} {subs : List Nd} (hk : h.kind = 2) (a b : Int) : tkN (lfM s m) (.mk h subs) a b ↔ 0 ≤ a ∧ a < s.size ∧ b = a + 1 ∧ h.set (s.data.toList.getD a.toNat 0).toNat = true := by
  rw [leaf_img h subs (by omega)]
  unfold lfM
  rw [if_neg (by omega), if_neg (by omega), if_pos hk]
  simp only [Bool.and_eq_true, decide_eq_true_eq]
  constructor
  · rintro ⟨⟨h1, h2⟩, ⟨h3, h4⟩, h5⟩; exact ⟨h1, h3, h4, h5⟩
  · rintro ⟨h1, h3, h4, h5⟩; exact ⟨⟨h1, by omega⟩, ⟨h3, h4⟩, h5⟩
theorem tk_mark {s : ByteArray} {m : List UInt8} {h : Hd} {subs : List Nd} {k : Int} (hk : h.kind = 3 ∧ k = 1 ∨ h.kind = 4 ∧ k = 2) (a b : Int) : tkN (lfM s m) (.mk h subs) a b ↔ 0 ≤ a ∧ a ≤ s.size ∧ a = b ∧ (bits .and .i64 (sMark m a) k != 0) = true := by
  rw [leaf_img h subs (by omega)]
  unfold lfM
  rcases hk with ⟨hk, rfl⟩ | ⟨hk, rfl⟩
  · rw [if_pos hk]
    simp only [Bool.and_eq_true, decide_eq_true_eq]
    constructor
    · rintro ⟨⟨h1, h2⟩, h3, h4⟩; exact ⟨h1, by omega, h3, h4⟩
    · rintro ⟨h1, h2, h3, h4⟩; exact ⟨⟨h1, by omega⟩, h3, h4⟩
  · rw [if_neg (by omega), if_pos hk]
    simp only [Bool.and_eq_true, decide_eq_true_eq]
    constructor
    · rintro ⟨⟨h1, h2⟩, h3, h4⟩; exact ⟨h1, by omega, h3, h4⟩
    · rintro ⟨h1, h2, h3, h4⟩; exact ⟨⟨h1, by omega⟩, h3, h4⟩
theorem tk_none {s : ByteArray} {m : List UInt8} {h : Hd} {subs : List Nd} (hk : h.kind = 1) (a b : Int) : tkN (lfM s m) (.mk h subs) a b ↔ 0 ≤ a ∧ b ≤ s.size ∧ a = b := by
  rw [leaf_img h subs (by omega)]
  unfold lfM
  rw [if_neg (by omega), if_neg (by omega), if_neg (by omega)]
  simp only [Bool.and_eq_true, decide_eq_true_eq]
  constructor
  · rintro ⟨⟨h1, h2⟩, h3⟩; exact ⟨h1, h2, h3⟩
  · rintro ⟨h1, h2, h3⟩; exact ⟨⟨h1, h2⟩, h3⟩
theorem accD_iff {add : Nat → Pl} {p : Pl} {j : Nat} : accD noP add p j = true ↔ ∃ i, p i = true ∧ add i j = true := by
  simp [accD, orP, noP]
theorem one_iff {i j : Nat} : oneP i j = true ↔ j = i := by unfold oneP; rw [decide_eq_true_eq]
theorem acc_byte {s : ByteArray} {m : List UInt8} {h : Hd} {subs : List Nd} (hk : h.kind = 2) (back : Bool) (p : Pl) : accD noP (addB s h.set back) p = img (dirR back (tkN (lfM s m) (.mk h subs))) p := pl_ext fun j => by
  rw [accD_iff, img_iff]
  have hadd : ∀ i : Nat, addB s h.set back i j = true ↔ dirR back (tkN (lfM s m) (.mk h subs)) i j := fun i => by
    unfold addB sHas
    cases back with
    | false =>
      simp only [Bool.false_eq_true, if_false]
      rw [show dirR false (tkN (lfM s m) (.mk h subs)) i j = tkN (lfM s m) (.mk h subs) i j from rfl, tk_byte hk]
      split
      · rename_i hc
        rw [Bool.and_eq_true, decide_eq_true_eq] at hc
        rw [one_iff]
        constructor
        · intro h1; exact ⟨hc.1.1, hc.1.2, by omega, hc.2⟩
        · rintro ⟨_, _, h3, _⟩; omega
      · rename_i hc
        constructor
        · intro h1; cases h1
        · rintro ⟨h1, h2, h3, h4⟩
          exact absurd (by rw [Bool.and_eq_true, decide_eq_true_eq]; exact ⟨⟨h1, h2⟩, h4⟩) hc
    | true =>
      simp only [if_true]
      rw [show dirR true (tkN (lfM s m) (.mk h subs)) i j = tkN (lfM s m) (.mk h subs) j i from rfl, tk_byte hk]
      split
      · rename_i hc
        rw [Bool.and_eq_true, decide_eq_true_eq] at hc
        rw [one_iff]
        constructor
        · intro h1
          have e : (j : Int) = (i : Int) - 1 := by omega
          rw [e]
          exact ⟨hc.1.1, hc.1.2, by omega, hc.2⟩
        · rintro ⟨_, _, h3, _⟩; omega
      · rename_i hc
        constructor
        · intro h1; cases h1
        · rintro ⟨h1, h2, h3, h4⟩
          have e : (i : Int) - 1 = (j : Int) := by omega
          exact absurd (by rw [Bool.and_eq_true, decide_eq_true_eq, e]; exact ⟨⟨h1, h2⟩, h4⟩) hc
  constructor
  · rintro ⟨i, h1, h2⟩; exact ⟨i, h1, (hadd i).1 h2⟩
  · rintro ⟨i, h1, h2⟩; exact ⟨i, h1, (hadd i).2 h2⟩
theorem acc_mark {s : ByteArray} {m : List UInt8} {h : Hd} {subs : List Nd} {k : Int} (hk : h.kind = 3 ∧ k = 1 ∨ h.kind = 4 ∧ k = 2) (back : Bool) {p : Pl} (hp : PlN s.size p) : accD noP (addM m k) p = img (dirR back (tkN (lfM s m) (.mk h subs))) p := pl_ext fun j => by
  rw [accD_iff, img_iff]
  have hd : ∀ i : Nat, i ≤ s.size → (dirR back (tkN (lfM s m) (.mk h subs)) i j ↔ i = j ∧ (bits .and .i64 (sMark m i) k != 0) = true) := fun i hi => by
    cases back with
    | false =>
      rw [show dirR false (tkN (lfM s m) (.mk h subs)) i j = tkN (lfM s m) (.mk h subs) i j from rfl, tk_mark hk]
      constructor
      · rintro ⟨_, _, h3, h4⟩; exact ⟨by omega, h4⟩
      · rintro ⟨h3, h4⟩; exact ⟨by omega, by omega, by omega, h4⟩
    | true =>
      rw [show dirR true (tkN (lfM s m) (.mk h subs)) i j = tkN (lfM s m) (.mk h subs) j i from rfl, tk_mark hk]
      constructor
      · rintro ⟨_, _, h3, h4⟩; exact ⟨by omega, by rw [← h3]; exact h4⟩
      · rintro ⟨h3, h4⟩; subst h3; exact ⟨by omega, by omega, rfl, h4⟩
  constructor
  · rintro ⟨i, h1, h2⟩
    refine ⟨i, h1, (hd i (hp i h1)).2 ?_⟩
    unfold addM at h2
    split at h2
    · rename_i hc; exact ⟨(one_iff.1 h2).symm, hc⟩
    · cases h2
  · rintro ⟨i, h1, h2⟩
    obtain ⟨h3, h4⟩ := (hd i (hp i h1)).1 h2
    refine ⟨i, h1, ?_⟩
    unfold addM
    rw [if_pos h4]
    exact one_iff.2 h3.symm
theorem img_none {s : ByteArray} {m : List UInt8} {h : Hd} {subs : List Nd} (hk : h.kind = 1) (back : Bool) {p : Pl} (hp : PlN s.size p) : img (dirR back (tkN (lfM s m) (.mk h subs))) p = p := pl_ext fun j => by
  rw [img_iff]
  constructor
  · rintro ⟨i, h1, h2⟩
    have : i = j := by
      cases back with
      | false => have := (tk_none hk _ _).1 h2; omega
      | true => have := (tk_none hk _ _).1 (show tkN (lfM s m) (.mk h subs) j i from h2); omega
    rwa [← this]
  · intro h1
    have := hp j h1
    refine ⟨j, h1, ?_⟩
    cases back with
    | false => exact (tk_none hk _ _).2 ⟨by omega, by omega, rfl⟩
    | true => exact (show tkN (lfM s m) (.mk h subs) j j from (tk_none hk _ _).2 ⟨by omega, by omega, rfl⟩)

end Go.Proofs.YtgfknlkpdiejgaaGreatDoor

namespace Go.Proofs.YtgfknlkpdiejgaaGreatDoor
open Go Go.RowKit

set_option maxRecDepth 100000 in
set_option maxHeartbeats 8000000 in
theorem eachB_any (v tov : Value) (B nw n : Nat) (p acc0 : Pl) (add : Nat → Pl) (c1 c2 c3 : Value) (w : World)
    (h : RdP w v nw p) (hp : PlN n p) (hn : n / 64 < nw) (hnw : nw ≤ 100000000) (hne : ∀ g, blkOf v = some g → tov.ownBlock ≠ some g) (hT : Tab w) (hB : 21 < B) (ho : OwnP w B tov nw acc0)
    (HC : Hid (∀ (i : Nat) (acc : Pl) (W : World), p i = true → OwnP W B tov nw acc → Keeps (fun k => tov.ownBlock = some k) w W →
      Calls Tryz.prog 49 #[.int .i64 i, c1, c2, c3] W fun e W' => e = .returned (.tuple #[]) ∧ OwnP W' B tov nw (orP acc (add i)) ∧ Keeps (fun k => tov.ownBlock = some k) W W')) :
    Calls Tryz.prog 44 #[v, .func (.func 49) #[] #[c1, c2, c3]] w fun e w' => e = .returned (.tuple #[]) ∧ OwnP w' B tov nw (accD acc0 add p) ∧ Keeps (fun k => tov.ownBlock = some k) w w' := by
  have HR := Lib.hid h
  have HP := Lib.hid hp
  have HNE := Lib.hid hne
  have HT := Lib.hid hT
  have HO := Lib.hid ho
  have HN := Lib.hid hn
  obtain ⟨A, c, rfl, hlc, _⟩ := h
  clear hp hne hT ho hn
  go_enter Tryz.func44, Tryz.ntmps44
  go_wp2
  go_loopw [8] (fun iv wr => ∃ k : Nat, k ≤ nw ∧ iv = .int .i64 k ∧ OwnP wr B tov nw (accD acc0 add (lowP p k)) ∧ Keeps (fun k => tov.ownBlock = some k) w wr) (fun iv _ => nw - (intOf iv).toNat)
  case atStart =>
    refine ⟨0, Nat.zero_le _, rfl, ?_, Keeps.refl _ _⟩
    rw [accD_none]
    · exact HO.out
    · intro i; unfold lowP; simp
  case round =>
    obtain ⟨k, hk, rfl, ho, hK⟩ := hrel
    obtain ⟨w1, hw1⟩ : ∃ w, w = wr := ⟨_, rfl⟩
    subst hw1
    by_cases hlt : k < nw
    · have q9 : (k : Int) < (nw : Int) := by omega
      have hr := HR.out.keeps hK (fun g hg h => HNE.out g hg h)
      obtain ⟨_, _, hs, _, hc⟩ := hr
      injection hs with e1 _ e3
      subst e1
      clear e3
      obtain ⟨g, o, hA, hcell⟩ := hc k hlt
      subst hA
      have HO1 := Lib.hid ho
      have HK1 := Lib.hid hK
      clear hc ho hK
      go_upto_region 3 with fail
      have HST : Hid (OwnP w1 B tov nw (accD acc0 add (bitP p k (wd p k)))) := Lib.hid (by rw [bit_start]; exact HO1.out)
      have hwl := wd_lt p k
      have HB0 : Hid (∀ r, r < 64 → (wd p k).testBit r = true → p (64 * k + r) = true) := Lib.hid (fun r hr h => by rw [wd_bit _ _ _ hr] at h; exact h)
      clear hcell HO1
      go_loopw [5] (fun xv wr => ∃ x : Nat, xv = .int .u64 x ∧ x < 18446744073709551616 ∧ Hid (∀ r, r < 64 → x.testBit r = true → p (64 * k + r) = true) ∧ OwnP wr B tov nw (accD acc0 add (bitP p k x)) ∧ Keeps (fun k => tov.ownBlock = some k) w wr) (fun xv _ => (intOf xv).toNat)
      case atStart => exact ⟨wd p k, rfl, hwl, HB0, HST.out, HK1.out⟩
      case round =>
        obtain ⟨x, rfl, hx, HB, ho, hK⟩ := hrel
        clear HB0 HST
        by_cases hx0 : x = 0
        · subst hx0
          have hend : Hid (OwnP wr B tov nw (accD acc0 add (lowP p (k + 1)))) := Lib.hid (by rw [← bit_end]; exact ho)
          have HK2 := Lib.hid hK
          clear ho hK
          go_wp2
          go_roundw
          case rel => exact ⟨k + 1, hlt, by go_num, hend.out, HK2.out⟩
          case measure => simp [intOf]; omega
        · have q8 : ((x : Int) != 0) = true := by rw [bne_iff_ne]; omega
          obtain ⟨t1, t2, _⟩ := ctz_bits hx0 hx
          have hpi := HB.out _ t1 t2
          have HTZ := Lib.hid (tz_any x wr hx hx0 (fun i hi => cell_keeps (HT.out i hi) hK (fun h => by
            have h2 := (HO.out.own _ h).1
            simp only at h2
            omega)))
          have HCC := Lib.hid (HC.out _ _ wr hpi ho hK)
          have HSTEP := Lib.hid (bit_step p k x hx0 hx t1 hpi)
          have hstep := accD_step acc0 add (D := bitP p k x) (D' := bitP p k (x &&& (x - 1))) (64 * k + Lib.ctz 64 x) HSTEP.out
          rw [hstep] at HCC
          have HB2 : Hid (∀ r, r < 64 → (x &&& (x - 1)).testBit r = true → p (64 * k + r) = true) := Lib.hid (fun r hr h => by
            rw [low_clear hx0 hx, Bool.and_eq_true] at h
            exact HB.out r hr h.1)
          have hlow := low_less hx0
          have hsub : bits .and .u64 (x : Int) ((x : Int) - 1) = ((x &&& (x - 1) : Nat) : Int) := by
            rw [show (x : Int) - 1 = ((x - 1 : Nat) : Int) by omega]
            exact u64_and_nat x (x - 1) hx (by omega)
          have hx1 : 1 ≤ x := by omega
          have HK2 := Lib.hid hK
          clear ho hK hstep HSTEP HB t2 hpi
          generalize Lib.ctz 64 x = t at *
          generalize (x &&& (x - 1)) = y at *
          go_wp2_with (first
            | (go_at_call 71; refine HTZ.out.mono ?_; rintro e w3 ⟨rfl, rfl⟩)
            | (go_at_call 49; refine HCC.out.mono ?_; rintro e w4 ⟨rfl, ho4, hk4⟩))
          go_roundw
          case rel => exact ⟨y, rfl, by omega, HB2, ho4, HK2.out.trans hk4 (fun _ _ h => h)⟩
          case measure => simp [intOf]; omega
    · have q9 : ¬ (k : Int) < (nw : Int) := by omega
      have hall : Hid (lowP p k = p) := Lib.hid (by
        funext i
        unfold lowP
        rcases Bool.eq_false_or_eq_true (p i) with hi | hi
        · have := HP.out i hi
          have h2 : i / 64 < k := by have : i / 64 ≤ n / 64 := Nat.div_le_div_right this
                                     have := HN.out
                                     omega
          rw [hi, decide_eq_true h2]; rfl
        · rw [hi]; rfl)
      rw [hall.out] at ho
      go_wp2
      go_end0
      exact ⟨rfl, ho, hK⟩

end Go.Proofs.YtgfknlkpdiejgaaGreatDoor

namespace Go.Proofs.YtgfknlkpdiejgaaGreatDoor
open Go Go.RowKit

set_option maxRecDepth 100000 in
set_option maxHeartbeats 8000000 in
theorem eachA_any (v tov : Value) (B nw n : Nat) (p acc0 : Pl) (add : Nat → Pl) (c1 c2 c3 c4 c5 : Value) (w : World)
    (h : RdP w v nw p) (hp : PlN n p) (hn : n / 64 < nw) (hnw : nw ≤ 100000000) (hne : ∀ g, blkOf v = some g → tov.ownBlock ≠ some g) (hT : Tab w) (hB : 21 < B) (ho : OwnP w B tov nw acc0)
    (HC : Hid (∀ (i : Nat) (acc : Pl) (W : World), p i = true → OwnP W B tov nw acc → Keeps (fun k => tov.ownBlock = some k) w W →
      Calls Tryz.prog 45 #[.int .i64 i, c1, c2, c3, c4, c5] W fun e W' => e = .returned (.tuple #[]) ∧ OwnP W' B tov nw (orP acc (add i)) ∧ Keeps (fun k => tov.ownBlock = some k) W W')) :
    Calls Tryz.prog 44 #[v, .func (.func 45) #[] #[c1, c2, c3, c4, c5]] w fun e w' => e = .returned (.tuple #[]) ∧ OwnP w' B tov nw (accD acc0 add p) ∧ Keeps (fun k => tov.ownBlock = some k) w w' := by
  have HR := Lib.hid h
  have HP := Lib.hid hp
  have HNE := Lib.hid hne
  have HT := Lib.hid hT
  have HO := Lib.hid ho
  have HN := Lib.hid hn
  obtain ⟨A, c, rfl, hlc, _⟩ := h
  clear hp hne hT ho hn
  go_enter Tryz.func44, Tryz.ntmps44
  go_wp2
  go_loopw [8] (fun iv wr => ∃ k : Nat, k ≤ nw ∧ iv = .int .i64 k ∧ OwnP wr B tov nw (accD acc0 add (lowP p k)) ∧ Keeps (fun k => tov.ownBlock = some k) w wr) (fun iv _ => nw - (intOf iv).toNat)
  case atStart =>
    refine ⟨0, Nat.zero_le _, rfl, ?_, Keeps.refl _ _⟩
    rw [accD_none]
    · exact HO.out
    · intro i; unfold lowP; simp
  case round =>
    obtain ⟨k, hk, rfl, ho, hK⟩ := hrel
    obtain ⟨w1, hw1⟩ : ∃ w, w = wr := ⟨_, rfl⟩
    subst hw1
    by_cases hlt : k < nw
    · have q9 : (k : Int) < (nw : Int) := by omega
      have hr := HR.out.keeps hK (fun g hg h => HNE.out g hg h)
      obtain ⟨_, _, hs, _, hc⟩ := hr
      injection hs with e1 _ e3
      subst e1
      clear e3
      obtain ⟨g, o, hA, hcell⟩ := hc k hlt
      subst hA
      have HO1 := Lib.hid ho
      have HK1 := Lib.hid hK
      clear hc ho hK
      go_upto_region 3 with fail
      have HST : Hid (OwnP w1 B tov nw (accD acc0 add (bitP p k (wd p k)))) := Lib.hid (by rw [bit_start]; exact HO1.out)
      have hwl := wd_lt p k
      have HB0 : Hid (∀ r, r < 64 → (wd p k).testBit r = true → p (64 * k + r) = true) := Lib.hid (fun r hr h => by rw [wd_bit _ _ _ hr] at h; exact h)
      clear hcell HO1
      go_loopw [5] (fun xv wr => ∃ x : Nat, xv = .int .u64 x ∧ x < 18446744073709551616 ∧ Hid (∀ r, r < 64 → x.testBit r = true → p (64 * k + r) = true) ∧ OwnP wr B tov nw (accD acc0 add (bitP p k x)) ∧ Keeps (fun k => tov.ownBlock = some k) w wr) (fun xv _ => (intOf xv).toNat)
      case atStart => exact ⟨wd p k, rfl, hwl, HB0, HST.out, HK1.out⟩
      case round =>
        obtain ⟨x, rfl, hx, HB, ho, hK⟩ := hrel
        clear HB0 HST
        by_cases hx0 : x = 0
        · subst hx0
          have hend : Hid (OwnP wr B tov nw (accD acc0 add (lowP p (k + 1)))) := Lib.hid (by rw [← bit_end]; exact ho)
          have HK2 := Lib.hid hK
          clear ho hK
          go_wp2
          go_roundw
          case rel => exact ⟨k + 1, hlt, by go_num, hend.out, HK2.out⟩
          case measure => simp [intOf]; omega
        · have q8 : ((x : Int) != 0) = true := by rw [bne_iff_ne]; omega
          obtain ⟨t1, t2, _⟩ := ctz_bits hx0 hx
          have hpi := HB.out _ t1 t2
          have HTZ := Lib.hid (tz_any x wr hx hx0 (fun i hi => cell_keeps (HT.out i hi) hK (fun h => by
            have h2 := (HO.out.own _ h).1
            simp only at h2
            omega)))
          have HCC := Lib.hid (HC.out _ _ wr hpi ho hK)
          have HSTEP := Lib.hid (bit_step p k x hx0 hx t1 hpi)
          have hstep := accD_step acc0 add (D := bitP p k x) (D' := bitP p k (x &&& (x - 1))) (64 * k + Lib.ctz 64 x) HSTEP.out
          rw [hstep] at HCC
          have HB2 : Hid (∀ r, r < 64 → (x &&& (x - 1)).testBit r = true → p (64 * k + r) = true) := Lib.hid (fun r hr h => by
            rw [low_clear hx0 hx, Bool.and_eq_true] at h
            exact HB.out r hr h.1)
          have hlow := low_less hx0
          have hsub : bits .and .u64 (x : Int) ((x : Int) - 1) = ((x &&& (x - 1) : Nat) : Int) := by
            rw [show (x : Int) - 1 = ((x - 1 : Nat) : Int) by omega]
            exact u64_and_nat x (x - 1) hx (by omega)
          have hx1 : 1 ≤ x := by omega
          have HK2 := Lib.hid hK
          clear ho hK hstep HSTEP HB t2 hpi
          generalize Lib.ctz 64 x = t at *
          generalize (x &&& (x - 1)) = y at *
          go_wp2_with (first
            | (go_at_call 71; refine HTZ.out.mono ?_; rintro e w3 ⟨rfl, rfl⟩)
            | (go_at_call 45; refine HCC.out.mono ?_; rintro e w4 ⟨rfl, ho4, hk4⟩))
          go_roundw
          case rel => exact ⟨y, rfl, by omega, HB2, ho4, HK2.out.trans hk4 (fun _ _ h => h)⟩
          case measure => simp [intOf]; omega
    · have q9 : ¬ (k : Int) < (nw : Int) := by omega
      have hall : Hid (lowP p k = p) := Lib.hid (by
        funext i
        unfold lowP
        rcases Bool.eq_false_or_eq_true (p i) with hi | hi
        · have := HP.out i hi
          have h2 : i / 64 < k := by have : i / 64 ≤ n / 64 := Nat.div_le_div_right this
                                     have := HN.out
                                     omega
          rw [hi, decide_eq_true h2]; rfl
        · rw [hi]; rfl)
      rw [hall.out] at ho
      go_wp2
      go_end0
      exact ⟨rfl, ho, hK⟩

end Go.Proofs.YtgfknlkpdiejgaaGreatDoor

namespace Go.Proofs.YtgfknlkpdiejgaaGreatDoor
open Classical

def cntP (p : Pl) : Nat → Nat
  | 0 => 0
  | n + 1 => cntP p n + if p n = true then 1 else 0
theorem cntP_le (p : Pl) : ∀ n, cntP p n ≤ n
  | 0 => Nat.le_refl _
  | n + 1 => by
    have := cntP_le p n
    rw [cntP]
    split <;> omega
theorem cntP_mono {p q : Pl} (h : ∀ i, p i = true → q i = true) : ∀ n, cntP p n ≤ cntP q n
  | 0 => Nat.le_refl _
  | n + 1 => by
    have := cntP_mono h n
    rw [cntP, cntP]
    by_cases hp : p n = true
    · rw [if_pos hp, if_pos (h n hp)]; omega
    · rw [if_neg hp]; omega
theorem cntP_lt {p q : Pl} (h : ∀ i, p i = true → q i = true) {j : Nat} (hq : q j = true) (hp : ¬ p j = true) : ∀ n, j < n → cntP p n < cntP q n
  | 0, hj => absurd hj (Nat.not_lt_zero _)
  | n + 1, hj => by
    rw [cntP, cntP]
    by_cases hn : j = n
    · subst hn
      rw [if_neg hp, if_pos hq]
      have := cntP_mono h j
      omega
    · have := cntP_lt h hq hp n (by omega)
      by_cases h1 : p n = true
      · rw [if_pos h1, if_pos (h n h1)]; omega
      · rw [if_neg h1]; omega
theorem new_some {n : Nat} {R : Rl} (hR : Inn n R) {q : Pl} (hq : PlN n q) : ∀ k, newP R q k ≠ noP → k ≤ cntP (upP R q k) (n + 1)
  | 0, _ => Nat.zero_le _
  | k + 1, h => by
    have hk : newP R q k ≠ noP := fun e => h (by rw [← round_new hR hq, e, img_no]; rfl)
    have ih := new_some hR hq k hk
    obtain ⟨j, hj⟩ : ∃ j, newP R q (k + 1) j = true := by
      refine Classical.byContradiction fun hno => h ?_
      funext j
      rcases Bool.eq_false_or_eq_true (newP R q (k + 1) j) with h1 | h1
      · exact absurd ⟨j, h1⟩ hno
      · exact h1
    have h2 : upP R q (k + 1) j = true ∧ upP R q k j = false := by
      have h3 : lessP (upP R q (k + 1)) (upP R q k) j = true := hj
      unfold lessP at h3
      simpa using h3
    have hjn := (hq.up hR (k + 1)) j h2.1
    have := cntP_lt (p := upP R q k) (q := upP R q (k + 1)) (fun i hi => up_mono (Nat.le_succ k) hi) h2.1 (by rw [h2.2]; decide) (n + 1) (by omega)
    omega
/-- Rounds that lead to new places: no more than there are places. -/
theorem new_bound {n : Nat} {R : Rl} (hR : Inn n R) {q : Pl} (hq : PlN n q) {k : Nat} (h : newP R q k ≠ noP) : k ≤ n + 1 :=
  Nat.le_trans (new_some hR hq k h) (cntP_le _ _)
theorem or_less (p q : Pl) : orP p (lessP q p) = orP p q := by
  funext i
  unfold orP lessP
  cases p i <;> simp
theorem round_all {n : Nat} {R : Rl} (hR : Inn n R) {q : Pl} (hq : PlN n q) (k : Nat) : orP (upP R q k) (img R (newP R q k)) = upP R q (k + 1) := by
  rw [← round_up R q k, ← round_new hR hq, or_less]

end Go.Proofs.YtgfknlkpdiejgaaGreatDoor
