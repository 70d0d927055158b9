/- The closures of lead as contracts: what a place adds over a byte, over a mark. Conditions: what they captured, the scene, the node and the words lie in memory. The lowest bit of a word struck out; what a loop over places has done, bit by bit. No program. What a leaf takes, by the scene's marks; what the closures add is what a leaf leads to. No condition. places.each with the closure of marks (lead$2) as a contract: what each place adds is added. Conditions: the words lie in memory, the library's table too; the closure's contract. -/
import Derived.Test.YtgfknlkpdiejgaaDoorZRankedWithinAF
import Derived.Test.YtgfknlkpdiejgaaDoorZRankedWithinAA
import Derived.Test.YtgfknlkpdiejgaaDoorOctet
import Derived.Test.YtgfknlkpdiejgaaDoorNodeW
import Derived.Test.YtgfknlkpdiejgaaDoorLdP
import Derived.Lib.TrailingZeros
import Derived.Shelf.Spec.TrailingZeros
import Derived.Test.YtgfknlkpdiejgaaDoorFst
namespace Go.Proofs.YtgfknlkpdiejgaaDoor
open Go Go.RowKit

/-- What a place adds: one byte on, or back. -/
def addB (s : ByteArray) (st : Nat → Bool) (back : Bool) (i : Nat) : Pl :=
  if sHas s (if back then (i : Int) - 1 else i) && st (s.data.toList.getD (if back then (i : Int) - 1 else i).toNat 0).toNat then oneP (if back then i - 1 else i + 1) else noP
/-- .. a mark. -/
def addM (m : List UInt8) (mk : Int) (i : Nat) : Pl := if bits .and .i64 (sMark m i) mk != 0 then oneP i else noP
theorem or_one_ins (p : Pl) (j : Nat) : insB p j = orP p (oneP j) := by
  funext k
  unfold insB orP oneP
  congr 1
theorem or_no (p : Pl) : orP p noP = p := by
  funext k
  unfold orP noP
  rw [Bool.or_false]

set_option maxRecDepth 100000 in
set_option maxHeartbeats 8000000 in
theorem leadA_any (i : Nat) (back : Bool) (ev x sv : Value) (nw tg tk : Nat) (h : Hd) (svn tov : Value) (B : Nat) (acc : Pl) (s : ByteArray) (m : List UInt8) (bk be bt bto bs : Nat) (w : World)
    (hbk : w.cell? ⟨bk, 0, none⟩ = some (.bool back)) (hbe : w.cell? ⟨be, 0, none⟩ = some ev) (hbt : w.cell? ⟨bt, 0, none⟩ = some (.pointer (some ⟨tg, tk, none⟩))) (hbto : w.cell? ⟨bto, 0, none⟩ = some tov)
    (hbs : w.cell? ⟨bs, 0, none⟩ = some (.int .i64 (if back then -1 else 1))) (hE : EnAt w ev x nw sv) (hS : IsScene w x s m) (hN : NdAt w tg tk h svn) (hO : OwnP w B tov nw acc) (hi : i ≤ s.size) (hnw : s.size / 64 < nw) (hnn : nw ≤ 100000000) (hss : s.size ≤ 1000000) :
    Calls Tryd.prog 35 #[.int .i64 i, .pointer (some ⟨bk, 0, none⟩), .pointer (some ⟨be, 0, none⟩), .pointer (some ⟨bt, 0, none⟩), .pointer (some ⟨bto, 0, none⟩), .pointer (some ⟨bs, 0, none⟩)] w
      fun e w' => e = .returned (.tuple #[]) ∧ OwnP w' B tov nw (orP acc (addB s h.set back i)) ∧ Keeps (fun k => tov.ownBlock = some k) w w' := by
  obtain ⟨a, ha⟩ : ∃ a : Int, a = if back then (i : Int) - 1 else i := ⟨_, rfl⟩
  have HY := Lib.hid (byte_any x s m a w hS)
  obtain ⟨ge, rfl, hge⟩ := hE
  have e0 : w.cell? ⟨ge, 0, none⟩ = some x := hge.cell 0
  have n1 : w.cell? ⟨tg, tk + 1, none⟩ = some (u64v (wd h.set 0)) := hN 1 (by decide)
  have n2 : w.cell? ⟨tg, tk + 2, none⟩ = some (u64v (wd h.set 1)) := hN 2 (by decide)
  have n3 : w.cell? ⟨tg, tk + 3, none⟩ = some (u64v (wd h.set 2)) := hN 3 (by decide)
  have n4 : w.cell? ⟨tg, tk + 4, none⟩ = some (u64v (wd h.set 3)) := hN 4 (by decide)
  have HO := Lib.hid hO
  obtain ⟨A, c, hv, _⟩ := hO.shape
  rw [pwC_len] at hv
  subst hv
  have HA := Lib.hid ha
  generalize hst : h.set = st at *
  clear hge hN hO hS ha hst
  go_enter Tryd.func35, Tryd.ntmps35
  go_upto_region 1 with fail
  go_cut [11] (fun v wx => v = .bool back ∧ w = wx)
  case first =>
    go_wp2
    go_meet
    case rel => exact ⟨rfl, rfl⟩
  obtain ⟨rfl, rfl⟩ := hcut
  go_step
  go_cut [7, 11] (fun v _ wx => v = .int .i64 a ∧ w = wx)
  case first =>
    cases back with
    | true =>
      go_wp2
      go_meet
      case rel => exact ⟨by rw [HA.out]; rfl, rfl⟩
    | false =>
      go_wp2
      go_meet
      case rel => exact ⟨by rw [HA.out]; rfl, rfl⟩
  obtain ⟨rfl, rfl⟩ := hcut
  by_cases hin : sHas s a = true
  · have hin2 : 0 ≤ a ∧ a < s.size := by unfold sHas at hin; simpa using hin
    have hby : sByte s a = ((s.data.toList.getD a.toNat 0).toNat : Int) := by unfold sByte; rw [if_pos hin2]
    have hbl := (s.data.toList.getD a.toNat 0).toNat_lt
    rw [hin, hby] at HY
    have HAD : Hid (addB s st back i = if st (s.data.toList.getD a.toNat 0).toNat then oneP (if back then i - 1 else i + 1) else noP) := Lib.hid (by unfold addB; rw [← HA.out, hin, Bool.true_and])
    generalize (s.data.toList.getD a.toNat 0).toNat = byt at *
    have HH := Lib.hid (fun W => has_any st byt W hbl)
    unfold setV at HH
    obtain ⟨j, hj⟩ : ∃ j : Nat, (i : Int) + (if back then -1 else 1) = j ∧ (if back then i - 1 else i + 1) = j ∧ j ≤ s.size := by
      have := HA.out
      cases back with
      | true => simp only [if_true] at this; exact ⟨i - 1, by simp only [if_true]; omega, rfl, by omega⟩
      | false => simp only [Bool.false_eq_true, if_false] at this; exact ⟨i + 1, by simp only [Bool.false_eq_true, if_false]; omega, rfl, by omega⟩
    obtain ⟨hj1, hj2, hj3⟩ := hj
    rw [hj2] at HAD
    have HADD := Lib.hid (fun W (h : OwnP W B (.slice A nw c) nw acc) => add_any (.slice A nw c) B nw acc j W h (by have : j / 64 ≤ s.size / 64 := Nat.div_le_div_right hj3; omega) hnn)
    generalize (if back then (-1 : Int) else 1) = stp at *
    have HJ1 := Lib.hid hj1
    have hw1 : IntKind.i64.wrap ((i : Int) + stp) = (j : Int) := by rw [hj1, IntKind.wrap_i64]; omega
    clear hin hin2 hby HA hj1 hj2
    cases hsb : st byt with
    | true =>
      rw [hsb] at HH HAD
      rw [if_pos rfl] at HAD
      clear hsb
      go_wp2_with (first
        | (go_at_call 36; refine HY.out.mono ?_; rintro e w3 ⟨rfl, rfl⟩)
        | (go_at_call 37; refine (HH.out _).mono ?_; rintro e w4 ⟨rfl, hx4⟩; have hbto4 := hx4.cell hbto; have hbs4 := hx4.cell hbs)
        | (go_at_call 38; refine (HADD.out _ (HO.out.ext hx4)).mono ?_; rintro e w5 ⟨rfl, hO5, hk5⟩))
      go_end0
      exact ⟨rfl, by rw [HAD.out, ← or_one_ins]; exact hO5, (Keeps.of_ext hx4).trans hk5 (fun _ _ h => h)⟩
    | false =>
      rw [hsb] at HH HAD
      rw [if_neg (by decide)] at HAD
      clear hsb HADD
      go_wp2_with (first
        | (go_at_call 36; refine HY.out.mono ?_; rintro e w3 ⟨rfl, rfl⟩)
        | (go_at_call 37; refine (HH.out _).mono ?_; rintro e w4 ⟨rfl, hx4⟩))
      go_end0
      exact ⟨rfl, by rw [HAD.out, or_no]; exact HO.out.ext hx4, Keeps.of_ext hx4⟩
  · have hin' : sHas s a = false := by simpa using hin
    rw [hin'] at HY
    have HAD : Hid (addB s st back i = noP) := Lib.hid (by unfold addB; rw [← HA.out, hin', Bool.false_and]; rfl)
    clear hin hin' n1 n2 n3 n4 HA
    go_wp2_with (go_at_call 36; refine HY.out.mono ?_; rintro e w3 ⟨rfl, rfl⟩)
    go_end0
    exact ⟨rfl, by rw [HAD.out, or_no]; exact HO.out, Keeps.refl _ _⟩

set_option maxRecDepth 100000 in
set_option maxHeartbeats 8000000 in
theorem leadB_any (i : Nat) (ev x sv : Value) (nw : Nat) (tov : Value) (B : Nat) (acc : Pl) (s : ByteArray) (m : List UInt8) (mk : Int) (be bm bto : Nat) (w : World)
    (hbe : w.cell? ⟨be, 0, none⟩ = some ev) (hbm : w.cell? ⟨bm, 0, none⟩ = some (.int .i64 mk)) (hbto : w.cell? ⟨bto, 0, none⟩ = some tov)
    (hE : EnAt w ev x nw sv) (hS : IsScene w x s m) (hO : OwnP w B tov nw acc) (hi : i / 64 < nw) (hnn : nw ≤ 100000000) (hm : m.length ≤ 10000000) :
    Calls Tryd.prog 39 #[.int .i64 i, .pointer (some ⟨be, 0, none⟩), .pointer (some ⟨bm, 0, none⟩), .pointer (some ⟨bto, 0, none⟩)] w
      fun e w' => e = .returned (.tuple #[]) ∧ OwnP w' B tov nw (orP acc (addM m mk i)) ∧ Keeps (fun k => tov.ownBlock = some k) w w' := by
  have HM := Lib.hid (fun W (hW : Ext w W) => marks_any x s m i W hm (hS.ext hW))
  obtain ⟨ge, rfl, hge⟩ := hE
  have e0 := cell_plus (show w.cell? ⟨ge, 0, none⟩ = some x from hge.cell 0)
  have e1 := cell_plus hbe
  have e2 := cell_plus hbm
  have e3 := cell_plus hbto
  have HO := Lib.hid hO
  have HADD := Lib.hid (fun W (hW : Ext w W) => add_any tov B nw acc i W (hO.ext hW) hi hnn)
  obtain ⟨A, c, hv, _⟩ := hO.shape
  rw [pwC_len] at hv
  subst hv
  have HAD : Hid (addM m mk i = if (bits .and .i64 (sMark m i) mk != 0) = true then oneP i else noP) := Lib.hid rfl
  clear hge hO hS
  generalize sMark m i = q at *
  clear hbe hbm hbto
  cases hq : (bits .and .i64 q mk != 0) with
  | true =>
    rw [hq, if_pos rfl] at HAD
    go_enter Tryd.func39, Tryd.ntmps39
    go_upto_region 0 with fail
    refine wp_region_plus (by kernel_rfl) (by kernel_rfl) ?_
    repeat (go_big_quiet_step ((go_at_call 40; exact Calls.plus_of_same (HM.out _ (plus_ext _ _)))))
    refine wpQuiet_nil ?_
    intro y
    have e3' := e3 y
    clear e0 e1 e2 e3
    go_wp2_with (go_at_call 38; refine (HADD.out _ (plus_ext _ _)).mono ?_; rintro e w5 ⟨rfl, hO5, hk5⟩)
    go_end0
    exact ⟨rfl, by rw [HAD.out, ← or_one_ins]; exact hO5, (Keeps.of_ext (plus_ext w y)).trans hk5 (fun _ _ h => h)⟩
  | false =>
    rw [hq, if_neg (by decide)] at HAD
    go_enter Tryd.func39, Tryd.ntmps39
    go_upto_region 0 with fail
    refine wp_region_plus (by kernel_rfl) (by kernel_rfl) ?_
    repeat (go_big_quiet_step ((go_at_call 40; exact Calls.plus_of_same (HM.out _ (plus_ext _ _)))))
    refine wpQuiet_nil ?_
    intro y
    clear e0 e1 e2 e3
    go_wp2
    go_end0
    exact ⟨rfl, by rw [HAD.out, or_no]; exact HO.out.ext (plus_ext w y), Keeps.of_ext (plus_ext w y)⟩

end Go.Proofs.YtgfknlkpdiejgaaDoor

namespace Go.Proofs.YtgfknlkpdiejgaaDoor
open Classical

theorem low_clear {x : Nat} (h0 : x ≠ 0) (hx : x < 18446744073709551616) (j : Nat) : (x &&& (x - 1)).testBit j = (x.testBit j && decide (j ≠ Go.Lib.ctz 64 x)) := by
  obtain ⟨m, hm, hk⟩ := Go.Lib.ctzFrom_spec 64 x (by omega) hx
  have e : Go.Lib.ctz 64 x = Go.Lib.ctzFrom 64 x := by simp [Go.Lib.ctz, h0]
  rw [e]
  generalize Go.Lib.ctzFrom 64 x = c at *
  have hp : 0 < 2 ^ c := Nat.pow_pos (by decide)
  have h1 : x - 1 = 2 ^ c * (2 * m) + (2 ^ c - 1) := by rw [hm, Nat.mul_add, Nat.mul_one]; omega
  have h2 : x = 2 ^ c * (2 * m + 1) + 0 := by rw [hm]; rfl
  rw [Nat.testBit_and, h1]
  conv => lhs; rw [h2]
  conv => rhs; rw [h2]
  rw [Nat.testBit_two_pow_mul_add _ hp, Nat.testBit_two_pow_mul_add _ (by omega)]
  by_cases hj : j < c
  · rw [if_pos hj, if_pos hj]
    simp
  · rw [if_neg hj, if_neg hj]
    by_cases hc : j = c
    · subst hc
      rw [Nat.sub_self]
      simp [Nat.testBit_zero]
    · obtain ⟨d, hd⟩ : ∃ d, j - c = d + 1 := ⟨j - c - 1, by omega⟩
      rw [hd, Nat.testBit_succ, Nat.testBit_succ, show (2 * m + 1) / 2 = m by omega, show 2 * m / 2 = m by omega]
      simp [hc]
theorem low_less {x : Nat} (h0 : x ≠ 0) : (x &&& (x - 1)) < x := by
  have := @Nat.and_le_right x (x - 1)
  omega
/-- What is added by the places that are done. -/
noncomputable def accD (acc0 : Pl) (add : Nat → Pl) (D : Pl) : Pl := orP acc0 (fun j => decide (∃ i, D i = true ∧ add i j = true))
theorem accD_none (acc0 : Pl) (add : Nat → Pl) {D : Pl} (h : ∀ i, D i = false) : accD acc0 add D = acc0 := by
  funext j
  unfold accD orP
  have : decide (∃ i, D i = true ∧ add i j = true) = false := by
    rw [decide_eq_false_iff_not]
    rintro ⟨i, h1, _⟩
    rw [h i] at h1
    cases h1
  show (acc0 j || decide (∃ i, D i = true ∧ add i j = true)) = acc0 j
  rw [this, Bool.or_false]
theorem accD_step (acc0 : Pl) (add : Nat → Pl) {D D' : Pl} (i : Nat) (h : ∀ k, D' k = (D k || decide (k = i))) : orP (accD acc0 add D) (add i) = accD acc0 add D' := pl_ext fun j => by
  unfold accD orP
  simp only [Bool.or_eq_true, decide_eq_true_eq]
  constructor
  · rintro ((h1 | ⟨k, h1, h2⟩) | h1)
    · exact .inl h1
    · exact .inr ⟨k, by rw [h, h1]; rfl, h2⟩
    · exact .inr ⟨i, by rw [h]; simp, h1⟩
  · rintro (h1 | ⟨k, h1, h2⟩)
    · exact .inl (.inl h1)
    · rw [h, Bool.or_eq_true, decide_eq_true_eq] at h1
      rcases h1 with h1 | h1
      · exact .inl (.inr ⟨k, h1, h2⟩)
      · exact .inr (by rw [← h1]; exact h2)
/-- The places below word k. -/
def lowP (p : Pl) (k : Nat) : Pl := fun i => p i && decide (i / 64 < k)
/-- .. and those of word k that are struck out of x. -/
def bitP (p : Pl) (k x : Nat) : Pl := fun i => p i && (decide (i / 64 < k) || (decide (i / 64 = k) && !x.testBit (i % 64)))
theorem bit_start (p : Pl) (k : Nat) : bitP p k (wd p k) = lowP p k := by
  funext i
  unfold bitP lowP
  by_cases h : i / 64 = k
  · have hb : (wd p k).testBit (i % 64) = p i := by
      rw [wd_bit _ _ _ (by omega)]
      congr 1
      omega
    rw [hb]
    cases p i <;> simp
  · have e : decide (i / 64 = k) = false := by simpa using h
    rw [e, Bool.false_and, Bool.or_false]
theorem bit_end (p : Pl) (k : Nat) : bitP p k 0 = lowP p (k + 1) := by
  funext i
  unfold bitP lowP
  rw [Nat.zero_testBit, Bool.not_false, Bool.and_true, ← Bool.decide_or]
  congr 1
  rw [decide_eq_decide]
  omega
theorem bit_step (p : Pl) (k x : Nat) (h0 : x ≠ 0) (hx : x < 18446744073709551616) (hc : Go.Lib.ctz 64 x < 64) (hp : p (64 * k + Go.Lib.ctz 64 x) = true) (i : Nat) :
    bitP p k (x &&& (x - 1)) i = (bitP p k x i || decide (i = 64 * k + Go.Lib.ctz 64 x)) := by
  unfold bitP
  rw [low_clear h0 hx]
  by_cases h1 : i = 64 * k + Go.Lib.ctz 64 x
  · have e1 : i / 64 = k := by omega
    have e2 : i % 64 = Go.Lib.ctz 64 x := by omega
    have hpi : p i = true := by rw [h1]; exact hp
    rw [e1, e2, hpi, decide_eq_true h1]
    simp
  · have e : decide (i = 64 * k + Go.Lib.ctz 64 x) = false := by simpa using h1
    rw [e, Bool.or_false]
    by_cases h2 : i / 64 = k
    · have h3 : i % 64 ≠ Go.Lib.ctz 64 x := by omega
      simp [h3]
    · have e2 : decide (i / 64 = k) = false := by simpa using h2
      rw [e2, Bool.false_and, Bool.false_and]

end Go.Proofs.YtgfknlkpdiejgaaDoor

namespace Go.Proofs.YtgfknlkpdiejgaaDoor
open Go Go.RowKit

def lfM (s : ByteArray) (m : List UInt8) (h : Hd) (a b : Int) : Bool :=
  decide (0 ≤ a) && decide (b ≤ s.size) && (if h.kind = 3 then decide (a = b) && (bits .and .i64 (sMark m a) 1 != 0)
    else if h.kind = 4 then decide (a = b) && (bits .and .i64 (sMark m a) 2 != 0)
    else if h.kind = 2 then decide (a < s.size) && decide (b = a + 1) && h.set (s.data.toList.getD a.toNat 0).toNat
    else decide (a = b))
theorem lfM_ok (s : ByteArray) (m : List UInt8) : LOk s.size (lfM s m) := fun h a b hL => by
  unfold lfM at hL
  simp only [Bool.and_eq_true, decide_eq_true_eq] at hL
  obtain ⟨⟨h1, h2⟩, h3⟩ := hL
  split at h3
  · simp only [Bool.and_eq_true, decide_eq_true_eq] at h3
    omega
  · split at h3
    · simp only [Bool.and_eq_true, decide_eq_true_eq] at h3
      omega
    · split at h3
      · simp only [Bool.and_eq_true, decide_eq_true_eq] at h3
        omega
      · simp only [decide_eq_true_eq] at h3
        omega
theorem tk_byte {s : ByteArray} {m : List UInt8} {h : Hd} {subs : List Nd} (hk : h.kind = 2) (a b : Int) : tkN (lfM s m) (.mk h subs) a b ↔ 0 ≤ a ∧ a < s.size ∧ b = a + 1 ∧ h.set (s.data.toList.getD a.toNat 0).toNat = true := by
  rw [leaf_img h subs (by omega)]
  unfold lfM
  rw [if_neg (by omega), if_neg (by omega), if_pos hk]
  simp only [Bool.and_eq_true, decide_eq_true_eq]
  constructor
  · rintro ⟨⟨h1, h2⟩, ⟨h3, h4⟩, h5⟩; exact ⟨h1, h3, h4, h5⟩
  · rintro ⟨h1, h3, h4, h5⟩; exact ⟨⟨h1, by omega⟩, ⟨h3, h4⟩, h5⟩
theorem tk_mark {s : ByteArray} {m : List UInt8} {h : Hd} {subs : List Nd} {k : Int} (hk : h.kind = 3 ∧ k = 1 ∨ h.kind = 4 ∧ k = 2) (a b : Int) : tkN (lfM s m) (.mk h subs) a b ↔ 0 ≤ a ∧ a ≤ s.size ∧ a = b ∧ (bits .and .i64 (sMark m a) k != 0) = true := by
  rw [leaf_img h subs (by omega)]
  unfold lfM
  rcases hk with ⟨hk, rfl⟩ | ⟨hk, rfl⟩
  · rw [if_pos hk]
    simp only [Bool.and_eq_true, decide_eq_true_eq]
    constructor
    · rintro ⟨⟨h1, h2⟩, h3, h4⟩; exact ⟨h1, by omega, h3, h4⟩
    · rintro ⟨h1, h2, h3, h4⟩; exact ⟨⟨h1, by omega⟩, h3, h4⟩
  · rw [if_neg (by omega), if_pos hk]
    simp only [Bool.and_eq_true, decide_eq_true_eq]
    constructor
    · rintro ⟨⟨h1, h2⟩, h3, h4⟩; exact ⟨h1, by omega, h3, h4⟩
    · rintro ⟨h1, h2, h3, h4⟩; exact ⟨⟨h1, by omega⟩, h3, h4⟩
theorem tk_none {s : ByteArray} {m : List UInt8} {h : Hd} {subs : List Nd} (hk : h.kind = 1) (a b : Int) : tkN (lfM s m) (.mk h subs) a b ↔ 0 ≤ a ∧ b ≤ s.size ∧ a = b := by
  rw [leaf_img h subs (by omega)]
  unfold lfM
  rw [if_neg (by omega), if_neg (by omega), if_neg (by omega)]
  simp only [Bool.and_eq_true, decide_eq_true_eq]
  constructor
  · rintro ⟨⟨h1, h2⟩, h3⟩; exact ⟨h1, h2, h3⟩
  · rintro ⟨h1, h2, h3⟩; exact ⟨⟨h1, h2⟩, h3⟩
theorem accD_iff {add : Nat → Pl} {p : Pl} {j : Nat} : accD noP add p j = true ↔ ∃ i, p i = true ∧ add i j = true := by
  simp [accD, orP, noP]
theorem one_iff {i j : Nat} : oneP i j = true ↔ j = i := by unfold oneP; rw [decide_eq_true_eq]
theorem acc_byte {s : ByteArray} {m : List UInt8} {h : Hd} {subs : List Nd} (hk : h.kind = 2) (back : Bool) (p : Pl) : accD noP (addB s h.set back) p = img (dirR back (tkN (lfM s m) (.mk h subs))) p := pl_ext fun j => by
  rw [accD_iff, img_iff]
  have hadd : ∀ i : Nat, addB s h.set back i j = true ↔ dirR back (tkN (lfM s m) (.mk h subs)) i j := fun i => by
    unfold addB sHas
    cases back with
    | false =>
      simp only [Bool.false_eq_true, if_false]
      rw [show dirR false (tkN (lfM s m) (.mk h subs)) i j = tkN (lfM s m) (.mk h subs) i j from rfl, tk_byte hk]
      split
      · rename_i hc
        rw [Bool.and_eq_true, decide_eq_true_eq] at hc
        rw [one_iff]
        constructor
        · intro h1; exact ⟨hc.1.1, hc.1.2, by omega, hc.2⟩
        · rintro ⟨_, _, h3, _⟩; omega
      · rename_i hc
        constructor
        · intro h1; cases h1
        · rintro ⟨h1, h2, h3, h4⟩
          exact absurd (by rw [Bool.and_eq_true, decide_eq_true_eq]; exact ⟨⟨h1, h2⟩, h4⟩) hc
    | true =>
      simp only [if_true]
      rw [show dirR true (tkN (lfM s m) (.mk h subs)) i j = tkN (lfM s m) (.mk h subs) j i from rfl, tk_byte hk]
      split
      · rename_i hc
        rw [Bool.and_eq_true, decide_eq_true_eq] at hc
        rw [one_iff]
        constructor
        · intro h1
          have e : (j : Int) = (i : Int) - 1 := by omega
          rw [e]
          exact ⟨hc.1.1, hc.1.2, by omega, hc.2⟩
        · rintro ⟨_, _, h3, _⟩; omega
      · rename_i hc
        constructor
        · intro h1; cases h1
        · rintro ⟨h1, h2, h3, h4⟩
          have e : (i : Int) - 1 = (j : Int) := by omega
          exact absurd (by rw [Bool.and_eq_true, decide_eq_true_eq, e]; exact ⟨⟨h1, h2⟩, h4⟩) hc
  constructor
  · rintro ⟨i, h1, h2⟩; exact ⟨i, h1, (hadd i).1 h2⟩
  · rintro ⟨i, h1, h2⟩; exact ⟨i, h1, (hadd i).2 h2⟩
theorem acc_mark {s : ByteArray} {m : List UInt8} {h : Hd} {subs : List Nd} {k : Int} (hk : h.kind = 3 ∧ k = 1 ∨ h.kind = 4 ∧ k = 2) (back : Bool) {p : Pl} (hp : PlN s.size p) : accD noP (addM m k) p = img (dirR back (tkN (lfM s m) (.mk h subs))) p := pl_ext fun j => by
  rw [accD_iff, img_iff]
  have hd : ∀ i : Nat, i ≤ s.size → (dirR back (tkN (lfM s m) (.mk h subs)) i j ↔ i = j ∧ (bits .and .i64 (sMark m i) k != 0) = true) := fun i hi => by
    cases back with
    | false =>
      rw [show dirR false (tkN (lfM s m) (.mk h subs)) i j = tkN (lfM s m) (.mk h subs) i j from rfl, tk_mark hk]
      constructor
      · rintro ⟨_, _, h3, h4⟩; exact ⟨by omega, h4⟩
      · rintro ⟨h3, h4⟩; exact ⟨by omega, by omega, by omega, h4⟩
    | true =>
      rw [show dirR true (tkN (lfM s m) (.mk h subs)) i j = tkN (lfM s m) (.mk h subs) j i from rfl, tk_mark hk]
      constructor
      · rintro ⟨_, _, h3, h4⟩; exact ⟨by omega, by rw [← h3]; exact h4⟩
      · rintro ⟨h3, h4⟩; subst h3; exact ⟨by omega, by omega, rfl, h4⟩
  constructor
  · rintro ⟨i, h1, h2⟩
    refine ⟨i, h1, (hd i (hp i h1)).2 ?_⟩
    unfold addM at h2
    split at h2
    · rename_i hc; exact ⟨(one_iff.1 h2).symm, hc⟩
    · cases h2
  · rintro ⟨i, h1, h2⟩
    obtain ⟨h3, h4⟩ := (hd i (hp i h1)).1 h2
    refine ⟨i, h1, ?_⟩
    unfold addM
    rw [if_pos h4]
    exact one_iff.2 h3.symm
theorem img_none {s : ByteArray} {m : List UInt8} {h : Hd} {subs : List Nd} (hk : h.kind = 1) (back : Bool) {p : Pl} (hp : PlN s.size p) : img (dirR back (tkN (lfM s m) (.mk h subs))) p = p := pl_ext fun j => by
  rw [img_iff]
  constructor
  · rintro ⟨i, h1, h2⟩
    have : i = j := by
      cases back with
      | false => have := (tk_none hk _ _).1 h2; omega
      | true => have := (tk_none hk _ _).1 (show tkN (lfM s m) (.mk h subs) j i from h2); omega
    rwa [← this]
  · intro h1
    have := hp j h1
    refine ⟨j, h1, ?_⟩
    cases back with
    | false => exact (tk_none hk _ _).2 ⟨by omega, by omega, rfl⟩
    | true => exact (show tkN (lfM s m) (.mk h subs) j j from (tk_none hk _ _).2 ⟨by omega, by omega, rfl⟩)

end Go.Proofs.YtgfknlkpdiejgaaDoor

namespace Go.Proofs.YtgfknlkpdiejgaaDoor
open Go Go.RowKit

set_option maxRecDepth 100000 in
set_option maxHeartbeats 8000000 in
theorem eachB_any (v tov : Value) (B nw n : Nat) (p acc0 : Pl) (add : Nat → Pl) (c1 c2 c3 : Value) (w : World)
    (h : RdP w v nw p) (hp : PlN n p) (hn : n / 64 < nw) (hnw : nw ≤ 100000000) (hne : ∀ g, blkOf v = some g → tov.ownBlock ≠ some g) (hT : Tab w) (hB : 4 < B) (ho : OwnP w B tov nw acc0)
    (HC : Hid (∀ (i : Nat) (acc : Pl) (W : World), p i = true → OwnP W B tov nw acc → Keeps (fun k => tov.ownBlock = some k) w W →
      Calls Tryd.prog 39 #[.int .i64 i, c1, c2, c3] W fun e W' => e = .returned (.tuple #[]) ∧ OwnP W' B tov nw (orP acc (add i)) ∧ Keeps (fun k => tov.ownBlock = some k) W W')) :
    Calls Tryd.prog 34 #[v, .func (.func 39) #[] #[c1, c2, c3]] w fun e w' => e = .returned (.tuple #[]) ∧ OwnP w' B tov nw (accD acc0 add p) ∧ Keeps (fun k => tov.ownBlock = some k) w w' := by
  have HR := Lib.hid h
  have HP := Lib.hid hp
  have HNE := Lib.hid hne
  have HT := Lib.hid hT
  have HO := Lib.hid ho
  have HN := Lib.hid hn
  obtain ⟨A, c, rfl, hlc, _⟩ := h
  clear hp hne hT ho hn
  go_enter Tryd.func34, Tryd.ntmps34
  go_wp2
  go_loopw [8] (fun iv wr => ∃ k : Nat, k ≤ nw ∧ iv = .int .i64 k ∧ OwnP wr B tov nw (accD acc0 add (lowP p k)) ∧ Keeps (fun k => tov.ownBlock = some k) w wr) (fun iv _ => nw - (intOf iv).toNat)
  case atStart =>
    refine ⟨0, Nat.zero_le _, rfl, ?_, Keeps.refl _ _⟩
    rw [accD_none]
    · exact HO.out
    · intro i; unfold lowP; simp
  case round =>
    obtain ⟨k, hk, rfl, ho, hK⟩ := hrel
    obtain ⟨w1, hw1⟩ : ∃ w, w = wr := ⟨_, rfl⟩
    subst hw1
    by_cases hlt : k < nw
    · have q9 : (k : Int) < (nw : Int) := by omega
      have hr := HR.out.keeps hK (fun g hg h => HNE.out g hg h)
      obtain ⟨_, _, hs, _, hc⟩ := hr
      injection hs with e1 _ e3
      subst e1
      clear e3
      obtain ⟨g, o, hA, hcell⟩ := hc k hlt
      subst hA
      have HO1 := Lib.hid ho
      have HK1 := Lib.hid hK
      clear hc ho hK
      go_upto_region 3 with fail
      have HST : Hid (OwnP w1 B tov nw (accD acc0 add (bitP p k (wd p k)))) := Lib.hid (by rw [bit_start]; exact HO1.out)
      have hwl := wd_lt p k
      have HB0 : Hid (∀ r, r < 64 → (wd p k).testBit r = true → p (64 * k + r) = true) := Lib.hid (fun r hr h => by rw [wd_bit _ _ _ hr] at h; exact h)
      clear hcell HO1
      go_loopw [5] (fun xv wr => ∃ x : Nat, xv = .int .u64 x ∧ x < 18446744073709551616 ∧ Hid (∀ r, r < 64 → x.testBit r = true → p (64 * k + r) = true) ∧ OwnP wr B tov nw (accD acc0 add (bitP p k x)) ∧ Keeps (fun k => tov.ownBlock = some k) w wr) (fun xv _ => (intOf xv).toNat)
      case atStart => exact ⟨wd p k, rfl, hwl, HB0, HST.out, HK1.out⟩
      case round =>
        obtain ⟨x, rfl, hx, HB, ho, hK⟩ := hrel
        clear HB0 HST
        by_cases hx0 : x = 0
        · subst hx0
          have hend : Hid (OwnP wr B tov nw (accD acc0 add (lowP p (k + 1)))) := Lib.hid (by rw [← bit_end]; exact ho)
          have HK2 := Lib.hid hK
          clear ho hK
          go_wp2
          go_roundw
          case rel => exact ⟨k + 1, hlt, by go_num, hend.out, HK2.out⟩
          case measure => simp [intOf]; omega
        · have q8 : ((x : Int) != 0) = true := by rw [bne_iff_ne]; omega
          obtain ⟨t1, t2, _⟩ := ctz_bits hx0 hx
          have hpi := HB.out _ t1 t2
          have HTZ := Lib.hid (tz_any x wr hx hx0 (fun i hi => cell_keeps (HT.out i hi) hK (fun h => by
            have h2 := (HO.out.own _ h).1
            simp only at h2
            omega)))
          have HCC := Lib.hid (HC.out _ _ wr hpi ho hK)
          have HSTEP := Lib.hid (bit_step p k x hx0 hx t1 hpi)
          have hstep := accD_step acc0 add (D := bitP p k x) (D' := bitP p k (x &&& (x - 1))) (64 * k + Lib.ctz 64 x) HSTEP.out
          rw [hstep] at HCC
          have HB2 : Hid (∀ r, r < 64 → (x &&& (x - 1)).testBit r = true → p (64 * k + r) = true) := Lib.hid (fun r hr h => by
            rw [low_clear hx0 hx, Bool.and_eq_true] at h
            exact HB.out r hr h.1)
          have hlow := low_less hx0
          have hsub : bits .and .u64 (x : Int) ((x : Int) - 1) = ((x &&& (x - 1) : Nat) : Int) := by
            rw [show (x : Int) - 1 = ((x - 1 : Nat) : Int) by omega]
            exact u64_and_nat x (x - 1) hx (by omega)
          have hx1 : 1 ≤ x := by omega
          have HK2 := Lib.hid hK
          clear ho hK hstep HSTEP HB t2 hpi
          generalize Lib.ctz 64 x = t at *
          generalize (x &&& (x - 1)) = y at *
          go_wp2_with (first
            | (go_at_call 48; refine HTZ.out.mono ?_; rintro e w3 ⟨rfl, rfl⟩)
            | (go_at_call 39; refine HCC.out.mono ?_; rintro e w4 ⟨rfl, ho4, hk4⟩))
          go_roundw
          case rel => exact ⟨y, rfl, by omega, HB2, ho4, HK2.out.trans hk4 (fun _ _ h => h)⟩
          case measure => simp [intOf]; omega
    · have q9 : ¬ (k : Int) < (nw : Int) := by omega
      have hall : Hid (lowP p k = p) := Lib.hid (by
        funext i
        unfold lowP
        rcases Bool.eq_false_or_eq_true (p i) with hi | hi
        · have := HP.out i hi
          have h2 : i / 64 < k := by have : i / 64 ≤ n / 64 := Nat.div_le_div_right this
                                     have := HN.out
                                     omega
          rw [hi, decide_eq_true h2]; rfl
        · rw [hi]; rfl)
      rw [hall.out] at ho
      go_wp2
      go_end0
      exact ⟨rfl, ho, hK⟩

end Go.Proofs.YtgfknlkpdiejgaaDoor
