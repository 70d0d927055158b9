/- places.each with the closure of marks (lead$2) as a contract: what each place adds is added. Conditions: the words lie in memory, the library's table too; the closure's contract. places.each with the closure of bytes (lead$1) as a contract: what each place adds is added. Conditions: the words lie in memory, the library's table too; the closure's contract. A repeat's rounds come to an end: so many of them lead to new places at most. No program. engine.rounds as a contract, by the contract of lead at the repeat's tree. Conditions: the engine, the scene, the tree and the words lie in memory. -/
import Derived.Test.YtgfknlkpdiejgaaGreatDoorZRankedFindsAM
import Derived.Test.YtgfknlkpdiejgaaGreatDoorFst
import Derived.Test.YtgfknlkpdiejgaaGreatDoorZRankedFindsAH
import Derived.Test.YtgfknlkpdiejgaaGreatDoorZRankedFindsAJ
namespace Go.Proofs.YtgfknlkpdiejgaaGreatDoor
open Go Go.RowKit

set_option maxRecDepth 100000 in
set_option maxHeartbeats 8000000 in
theorem eachB_any (v tov : Value) (B nw n : Nat) (p acc0 : Pl) (add : Nat → Pl) (c1 c2 c3 : Value) (w : World)
    (h : RdP w v nw p) (hp : PlN n p) (hn : n / 64 < nw) (hnw : nw ≤ 100000000) (hne : ∀ g, blkOf v = some g → tov.ownBlock ≠ some g) (hT : Tab w) (hB : 21 < B) (ho : OwnP w B tov nw acc0)
    (HC : Hid (∀ (i : Nat) (acc : Pl) (W : World), p i = true → OwnP W B tov nw acc → Keeps (fun k => tov.ownBlock = some k) w W →
      Calls Tryz.prog 49 #[.int .i64 i, c1, c2, c3] W fun e W' => e = .returned (.tuple #[]) ∧ OwnP W' B tov nw (orP acc (add i)) ∧ Keeps (fun k => tov.ownBlock = some k) W W')) :
    Calls Tryz.prog 44 #[v, .func (.func 49) #[] #[c1, c2, c3]] w fun e w' => e = .returned (.tuple #[]) ∧ OwnP w' B tov nw (accD acc0 add p) ∧ Keeps (fun k => tov.ownBlock = some k) w w' := by
  have HR := Lib.hid h
  have HP := Lib.hid hp
  have HNE := Lib.hid hne
  have HT := Lib.hid hT
  have HO := Lib.hid ho
  have HN := Lib.hid hn
  obtain ⟨A, c, rfl, hlc, _⟩ := h
  clear hp hne hT ho hn
  go_enter Tryz.func44, Tryz.ntmps44
  go_wp2
  go_loopw [8] (fun iv wr => ∃ k : Nat, k ≤ nw ∧ iv = .int .i64 k ∧ OwnP wr B tov nw (accD acc0 add (lowP p k)) ∧ Keeps (fun k => tov.ownBlock = some k) w wr) (fun iv _ => nw - (intOf iv).toNat)
  case atStart =>
    refine ⟨0, Nat.zero_le _, rfl, ?_, Keeps.refl _ _⟩
    rw [accD_none]
    · exact HO.out
    · intro i; unfold lowP; simp
  case round =>
    obtain ⟨k, hk, rfl, ho, hK⟩ := hrel
    obtain ⟨w1, hw1⟩ : ∃ w, w = wr := ⟨_, rfl⟩
    subst hw1
    by_cases hlt : k < nw
    · have q9 : (k : Int) < (nw : Int) := by omega
      have hr := HR.out.keeps hK (fun g hg h => HNE.out g hg h)
      obtain ⟨_, _, hs, _, hc⟩ := hr
      injection hs with e1 _ e3
      subst e1
      clear e3
      obtain ⟨g, o, hA, hcell⟩ := hc k hlt
      subst hA
      have HO1 := Lib.hid ho
      have HK1 := Lib.hid hK
      clear hc ho hK
      go_upto_region 3 with fail
      have HST : Hid (OwnP w1 B tov nw (accD acc0 add (bitP p k (wd p k)))) := Lib.hid (by rw [bit_start]; exact HO1.out)
      have hwl := wd_lt p k
      have HB0 : Hid (∀ r, r < 64 → (wd p k).testBit r = true → p (64 * k + r) = true) := Lib.hid (fun r hr h => by rw [wd_bit _ _ _ hr] at h; exact h)
      clear hcell HO1
      go_loopw [5] (fun xv wr => ∃ x : Nat, xv = .int .u64 x ∧ x < 18446744073709551616 ∧ Hid (∀ r, r < 64 → x.testBit r = true → p (64 * k + r) = true) ∧ OwnP wr B tov nw (accD acc0 add (bitP p k x)) ∧ Keeps (fun k => tov.ownBlock = some k) w wr) (fun xv _ => (intOf xv).toNat)
      case atStart => exact ⟨wd p k, rfl, hwl, HB0, HST.out, HK1.out⟩
      case round =>
        obtain ⟨x, rfl, hx, HB, ho, hK⟩ := hrel
        clear HB0 HST
        by_cases hx0 : x = 0
        · subst hx0
          have hend : Hid (OwnP wr B tov nw (accD acc0 add (lowP p (k + 1)))) := Lib.hid (by rw [← bit_end]; exact ho)
          have HK2 := Lib.hid hK
          clear ho hK
          go_wp2
          go_roundw
          case rel => exact ⟨k + 1, hlt, by go_num, hend.out, HK2.out⟩
          case measure => simp [intOf]; omega
        · have q8 : ((x : Int) != 0) = true := by rw [bne_iff_ne]; omega
          obtain ⟨t1, t2, _⟩ := ctz_bits hx0 hx
          have hpi := HB.out _ t1 t2
          have HTZ := Lib.hid (tz_any x wr hx hx0 (fun i hi => cell_keeps (HT.out i hi) hK (fun h => by
            have h2 := (HO.out.own _ h).1
            simp only at h2
            omega)))
          have HCC := Lib.hid (HC.out _ _ wr hpi ho hK)
          have HSTEP := Lib.hid (bit_step p k x hx0 hx t1 hpi)
          have hstep := accD_step acc0 add (D := bitP p k x) (D' := bitP p k (x &&& (x - 1))) (64 * k + Lib.ctz 64 x) HSTEP.out
          rw [hstep] at HCC
          have HB2 : Hid (∀ r, r < 64 → (x &&& (x - 1)).testBit r = true → p (64 * k + r) = true) := Lib.hid (fun r hr h => by
            rw [low_clear hx0 hx, Bool.and_eq_true] at h
            exact HB.out r hr h.1)
          have hlow := low_less hx0
          have hsub : bits .and .u64 (x : Int) ((x : Int) - 1) = ((x &&& (x - 1) : Nat) : Int) := by
            rw [show (x : Int) - 1 = ((x - 1 : Nat) : Int) by omega]
            exact u64_and_nat x (x - 1) hx (by omega)
          have hx1 : 1 ≤ x := by omega
          have HK2 := Lib.hid hK
          clear ho hK hstep HSTEP HB t2 hpi
          generalize Lib.ctz 64 x = t at *
          generalize (x &&& (x - 1)) = y at *
          go_wp2_with (first
            | (go_at_call 71; refine HTZ.out.mono ?_; rintro e w3 ⟨rfl, rfl⟩)
            | (go_at_call 49; refine HCC.out.mono ?_; rintro e w4 ⟨rfl, ho4, hk4⟩))
          go_roundw
          case rel => exact ⟨y, rfl, by omega, HB2, ho4, HK2.out.trans hk4 (fun _ _ h => h)⟩
          case measure => simp [intOf]; omega
    · have q9 : ¬ (k : Int) < (nw : Int) := by omega
      have hall : Hid (lowP p k = p) := Lib.hid (by
        funext i
        unfold lowP
        rcases Bool.eq_false_or_eq_true (p i) with hi | hi
        · have := HP.out i hi
          have h2 : i / 64 < k := by have : i / 64 ≤ n / 64 := Nat.div_le_div_right this
                                     have := HN.out
                                     omega
          rw [hi, decide_eq_true h2]; rfl
        · rw [hi]; rfl)
      rw [hall.out] at ho
      go_wp2
      go_end0
      exact ⟨rfl, ho, hK⟩

end Go.Proofs.YtgfknlkpdiejgaaGreatDoor

namespace Go.Proofs.YtgfknlkpdiejgaaGreatDoor
open Go Go.RowKit

set_option maxRecDepth 100000 in
set_option maxHeartbeats 8000000 in
theorem eachA_any (v tov : Value) (B nw n : Nat) (p acc0 : Pl) (add : Nat → Pl) (c1 c2 c3 c4 c5 : Value) (w : World)
    (h : RdP w v nw p) (hp : PlN n p) (hn : n / 64 < nw) (hnw : nw ≤ 100000000) (hne : ∀ g, blkOf v = some g → tov.ownBlock ≠ some g) (hT : Tab w) (hB : 21 < B) (ho : OwnP w B tov nw acc0)
    (HC : Hid (∀ (i : Nat) (acc : Pl) (W : World), p i = true → OwnP W B tov nw acc → Keeps (fun k => tov.ownBlock = some k) w W →
      Calls Tryz.prog 45 #[.int .i64 i, c1, c2, c3, c4, c5] W fun e W' => e = .returned (.tuple #[]) ∧ OwnP W' B tov nw (orP acc (add i)) ∧ Keeps (fun k => tov.ownBlock = some k) W W')) :
    Calls Tryz.prog 44 #[v, .func (.func 45) #[] #[c1, c2, c3, c4, c5]] w fun e w' => e = .returned (.tuple #[]) ∧ OwnP w' B tov nw (accD acc0 add p) ∧ Keeps (fun k => tov.ownBlock = some k) w w' := by
  have HR := Lib.hid h
  have HP := Lib.hid hp
  have HNE := Lib.hid hne
  have HT := Lib.hid hT
  have HO := Lib.hid ho
  have HN := Lib.hid hn
  obtain ⟨A, c, rfl, hlc, _⟩ := h
  clear hp hne hT ho hn
  go_enter Tryz.func44, Tryz.ntmps44
  go_wp2
  go_loopw [8] (fun iv wr => ∃ k : Nat, k ≤ nw ∧ iv = .int .i64 k ∧ OwnP wr B tov nw (accD acc0 add (lowP p k)) ∧ Keeps (fun k => tov.ownBlock = some k) w wr) (fun iv _ => nw - (intOf iv).toNat)
  case atStart =>
    refine ⟨0, Nat.zero_le _, rfl, ?_, Keeps.refl _ _⟩
    rw [accD_none]
    · exact HO.out
    · intro i; unfold lowP; simp
  case round =>
    obtain ⟨k, hk, rfl, ho, hK⟩ := hrel
    obtain ⟨w1, hw1⟩ : ∃ w, w = wr := ⟨_, rfl⟩
    subst hw1
    by_cases hlt : k < nw
    · have q9 : (k : Int) < (nw : Int) := by omega
      have hr := HR.out.keeps hK (fun g hg h => HNE.out g hg h)
      obtain ⟨_, _, hs, _, hc⟩ := hr
      injection hs with e1 _ e3
      subst e1
      clear e3
      obtain ⟨g, o, hA, hcell⟩ := hc k hlt
      subst hA
      have HO1 := Lib.hid ho
      have HK1 := Lib.hid hK
      clear hc ho hK
      go_upto_region 3 with fail
      have HST : Hid (OwnP w1 B tov nw (accD acc0 add (bitP p k (wd p k)))) := Lib.hid (by rw [bit_start]; exact HO1.out)
      have hwl := wd_lt p k
      have HB0 : Hid (∀ r, r < 64 → (wd p k).testBit r = true → p (64 * k + r) = true) := Lib.hid (fun r hr h => by rw [wd_bit _ _ _ hr] at h; exact h)
      clear hcell HO1
      go_loopw [5] (fun xv wr => ∃ x : Nat, xv = .int .u64 x ∧ x < 18446744073709551616 ∧ Hid (∀ r, r < 64 → x.testBit r = true → p (64 * k + r) = true) ∧ OwnP wr B tov nw (accD acc0 add (bitP p k x)) ∧ Keeps (fun k => tov.ownBlock = some k) w wr) (fun xv _ => (intOf xv).toNat)
      case atStart => exact ⟨wd p k, rfl, hwl, HB0, HST.out, HK1.out⟩
      case round =>
        obtain ⟨x, rfl, hx, HB, ho, hK⟩ := hrel
        clear HB0 HST
        by_cases hx0 : x = 0
        · subst hx0
          have hend : Hid (OwnP wr B tov nw (accD acc0 add (lowP p (k + 1)))) := Lib.hid (by rw [← bit_end]; exact ho)
          have HK2 := Lib.hid hK
          clear ho hK
          go_wp2
          go_roundw
          case rel => exact ⟨k + 1, hlt, by go_num, hend.out, HK2.out⟩
          case measure => simp [intOf]; omega
        · have q8 : ((x : Int) != 0) = true := by rw [bne_iff_ne]; omega
          obtain ⟨t1, t2, _⟩ := ctz_bits hx0 hx
          have hpi := HB.out _ t1 t2
          have HTZ := Lib.hid (tz_any x wr hx hx0 (fun i hi => cell_keeps (HT.out i hi) hK (fun h => by
            have h2 := (HO.out.own _ h).1
            simp only at h2
            omega)))
          have HCC := Lib.hid (HC.out _ _ wr hpi ho hK)
          have HSTEP := Lib.hid (bit_step p k x hx0 hx t1 hpi)
          have hstep := accD_step acc0 add (D := bitP p k x) (D' := bitP p k (x &&& (x - 1))) (64 * k + Lib.ctz 64 x) HSTEP.out
          rw [hstep] at HCC
          have HB2 : Hid (∀ r, r < 64 → (x &&& (x - 1)).testBit r = true → p (64 * k + r) = true) := Lib.hid (fun r hr h => by
            rw [low_clear hx0 hx, Bool.and_eq_true] at h
            exact HB.out r hr h.1)
          have hlow := low_less hx0
          have hsub : bits .and .u64 (x : Int) ((x : Int) - 1) = ((x &&& (x - 1) : Nat) : Int) := by
            rw [show (x : Int) - 1 = ((x - 1 : Nat) : Int) by omega]
            exact u64_and_nat x (x - 1) hx (by omega)
          have hx1 : 1 ≤ x := by omega
          have HK2 := Lib.hid hK
          clear ho hK hstep HSTEP HB t2 hpi
          generalize Lib.ctz 64 x = t at *
          generalize (x &&& (x - 1)) = y at *
          go_wp2_with (first
            | (go_at_call 71; refine HTZ.out.mono ?_; rintro e w3 ⟨rfl, rfl⟩)
            | (go_at_call 45; refine HCC.out.mono ?_; rintro e w4 ⟨rfl, ho4, hk4⟩))
          go_roundw
          case rel => exact ⟨y, rfl, by omega, HB2, ho4, HK2.out.trans hk4 (fun _ _ h => h)⟩
          case measure => simp [intOf]; omega
    · have q9 : ¬ (k : Int) < (nw : Int) := by omega
      have hall : Hid (lowP p k = p) := Lib.hid (by
        funext i
        unfold lowP
        rcases Bool.eq_false_or_eq_true (p i) with hi | hi
        · have := HP.out i hi
          have h2 : i / 64 < k := by have : i / 64 ≤ n / 64 := Nat.div_le_div_right this
                                     have := HN.out
                                     omega
          rw [hi, decide_eq_true h2]; rfl
        · rw [hi]; rfl)
      rw [hall.out] at ho
      go_wp2
      go_end0
      exact ⟨rfl, ho, hK⟩

end Go.Proofs.YtgfknlkpdiejgaaGreatDoor

namespace Go.Proofs.YtgfknlkpdiejgaaGreatDoor
open Classical

def cntP (p : Pl) : Nat → Nat
  | 0 => 0
  | n + 1 => cntP p n + if p n = true then 1 else 0
theorem cntP_le (p : Pl) : ∀ n, cntP p n ≤ n
  | 0 => Nat.le_refl _
  | n + 1 => by
    have := cntP_le p n
    rw [cntP]
    split <;> omega
theorem cntP_mono {p q : Pl} (h : ∀ i, p i = true → q i = true) : ∀ n, cntP p n ≤ cntP q n
  | 0 => Nat.le_refl _
  | n + 1 => by
    have := cntP_mono h n
    rw [cntP, cntP]
    by_cases hp : p n = true
    · rw [if_pos hp, if_pos (h n hp)]; omega
    · rw [if_neg hp]; omega
theorem cntP_lt {p q : Pl} (h : ∀ i, p i = true → q i = true) {j : Nat} (hq : q j = true) (hp : ¬ p j = true) : ∀ n, j < n → cntP p n < cntP q n
  | 0, hj => absurd hj (Nat.not_lt_zero _)
  | n + 1, hj => by
    rw [cntP, cntP]
    by_cases hn : j = n
    · subst hn
      rw [if_neg hp, if_pos hq]
      have := cntP_mono h j
      omega
    · have := cntP_lt h hq hp n (by omega)
      by_cases h1 : p n = true
      · rw [if_pos h1, if_pos (h n h1)]; omega
      · rw [if_neg h1]; omega
theorem new_some {n : Nat} {R : Rl} (hR : Inn n R) {q : Pl} (hq : PlN n q) : ∀ k, newP R q k ≠ noP → k ≤ cntP (upP R q k) (n + 1)
  | 0, _ => Nat.zero_le _
  | k + 1, h => by
    have hk : newP R q k ≠ noP := fun e => h (by rw [← round_new hR hq, e, img_no]; rfl)
    have ih := new_some hR hq k hk
    obtain ⟨j, hj⟩ : ∃ j, newP R q (k + 1) j = true := by
      refine Classical.byContradiction fun hno => h ?_
      funext j
      rcases Bool.eq_false_or_eq_true (newP R q (k + 1) j) with h1 | h1
      · exact absurd ⟨j, h1⟩ hno
      · exact h1
    have h2 : upP R q (k + 1) j = true ∧ upP R q k j = false := by
      have h3 : lessP (upP R q (k + 1)) (upP R q k) j = true := hj
      unfold lessP at h3
      simpa using h3
    have hjn := (hq.up hR (k + 1)) j h2.1
    have := cntP_lt (p := upP R q k) (q := upP R q (k + 1)) (fun i hi => up_mono (Nat.le_succ k) hi) h2.1 (by rw [h2.2]; decide) (n + 1) (by omega)
    omega
/-- Rounds that lead to new places: no more than there are places. -/
theorem new_bound {n : Nat} {R : Rl} (hR : Inn n R) {q : Pl} (hq : PlN n q) {k : Nat} (h : newP R q k ≠ noP) : k ≤ n + 1 :=
  Nat.le_trans (new_some hR hq k h) (cntP_le _ _)
theorem or_less (p q : Pl) : orP p (lessP q p) = orP p q := by
  funext i
  unfold orP lessP
  cases p i <;> simp
theorem round_all {n : Nat} {R : Rl} (hR : Inn n R) {q : Pl} (hq : PlN n q) (k : Nat) : orP (upP R q k) (img R (newP R q k)) = upP R q (k + 1) := by
  rw [← round_up R q k, ← round_new hR hq, or_less]

end Go.Proofs.YtgfknlkpdiejgaaGreatDoor

namespace Go.Proofs.YtgfknlkpdiejgaaGreatDoor
open Go Go.RowKit

theorem own_litU (w : World) : Own1 (w.alloc (.cells #[] 22)) w.heap.size 22 (.slice (some ⟨w.heap.size, 0, none⟩) 0 0) [] :=
  ⟨rfl, .inr ⟨w.heap.size, 0, #[], rfl, Nat.le_refl _, heap_alloc_new w _, Nat.le_refl _, Nat.zero_le _, rfl, rfl⟩⟩
theorem RdP.news {W : World} {v : Value} {nw : Nat} {p : Pl} (h : RdP W v nw p) (h0 : 0 < nw) : (v = .slice none 0 0 ∧ pwC nw p = []) ∨ ∃ ad c, v = .slice (some ad) (pwC nw p).length c ∧ ∀ j u, (pwC nw p)[j]? = some u → W.cell? (ad.add j) = some u := by
  obtain ⟨A, c, rfl, hlc, hc⟩ := h
  obtain ⟨g, o, rfl, _⟩ := hc 0 h0
  refine .inr ⟨⟨g, o, none⟩, c, by rw [pwC_len], fun j u hu => ?_⟩
  have hj : j < nw := by
    have := (List.getElem?_eq_some_iff.1 hu).1
    rwa [pwC_len] at this
  obtain ⟨g', o', e, hcell⟩ := hc j hj
  injection e with e
  injection e with e1 e2
  subst e1 e2
  rw [pwC_get hj] at hu
  injection hu with hu
  subst hu
  have ea : (⟨g, o, none⟩ : Addr).add j = ⟨g, o + j, none⟩ := by unfold Addr.add; split <;> simp_all
  rw [ea]
  exact hcell
theorem RdP.lt {W : World} {v : Value} {nw : Nat} {p : Pl} (h : RdP W v nw p) (h0 : 0 < nw) : ∀ g, blkOf v = some g → g < W.heap.size := by
  obtain ⟨A, c, rfl, hlc, hc⟩ := h
  obtain ⟨g, o, rfl, hcell⟩ := hc 0 h0
  intro g' hg
  injection hg with hg
  subst hg
  exact World.block_lt_of_cell? W _ hcell
theorem RdP.shape {W : World} {v : Value} {nw : Nat} {p : Pl} (h : RdP W v nw p) : ∃ A c, v = .slice A nw c ∧ nw ≤ c := by
  obtain ⟨A, c, hv, hlc, _⟩ := h
  exact ⟨A, c, hv, hlc⟩
theorem pw_unary (nw : Nat) (p : Pl) : ∀ u ∈ pwC nw p, u.oneCell' = true := by
  intro u hu
  obtain ⟨j, _, rfl⟩ := List.mem_map.1 hu
  rfl
/-- What lead, parts and rounds answer: the places that are led to; in the memory of those that came in, or in new memory. -/
def LdR (W : World) (nw : Nat) (v : Value) (q : Pl) (e : Ending) (W' : World) : Prop := ∃ v', e = .returned v' ∧ Ext W W' ∧ RdP W' v' nw q ∧ (v' = v ∨ ∀ g, blkOf v' = some g → W.heap.size ≤ g)
def LeadOf (x : Value) (s : ByteArray) (m : List UInt8) (L : Hd → Int → Int → Bool) (nw : Nat) (n : Nd) : Prop :=
  ∀ (ev sv svn v : Value) (tg tk : Nat) (back : Bool) (p : Pl) (W : World), formB n = true → EnAt W ev x nw sv → IsScene W x s m → NdAt W tg tk n.h svn → NdOk W n svn → Tab W → RdP W v nw p → PlN s.size p →
    Calls Tryz.prog 25 #[ev, .pointer (some ⟨tg, tk, none⟩), v, .bool back] W (LdR W nw v (img (dirR back (tkN L n)) p))

section
variable {x : Value} {s : ByteArray} {m : List UInt8} {L : Hd → Int → Int → Bool} {nw : Nat}
set_option maxRecDepth 100000 in
set_option maxHeartbeats 8000000 in
theorem rounds_lead (n : Nd) (HL : LeadOf x s m L nw n) (hL : LOk s.size L) (hnw : s.size / 64 < nw) (hnn : nw ≤ 100000000) (hss : s.size ≤ 1000000) (ev sv svn v : Value) (tg tk mn : Nat) (mx : Int) (back : Bool) (p : Pl) (w : World)
    (hf : formB n = true) (hE : EnAt w ev x nw sv) (hS : IsScene w x s m) (hA : NdAt w tg tk n.h svn) (hN : NdOk w n svn) (hT : Tab w) (hR : RdP w v nw p) (hp : PlN s.size p) (hmn : mn ≤ 1000) (hmx : mx = -1 ∨ (mn : Int) ≤ mx) (hm2 : mx ≤ 1000) :
    Calls Tryz.prog 52 #[ev, .pointer (some ⟨tg, tk, none⟩), .int .i64 mn, .int .i64 mx, v, .bool back] w (LdR w nw v (img (rpR (dirR back (tkN L n)) mn mx) p)) := by
  have hRI : Inn s.size (dirR back (tkN L n)) := dirR_inn (tkN_mon hL n) back
  have HLD := Lib.hid (fun W (hW : Ext w W) v q (h1 : RdP W v nw q) (h2 : PlN s.size q) => HL ev sv svn v tg tk back q W hf (hE.ext hW) (hS.ext hW) (hA.ext hW) (hN.ext hW) (hT.ext hW) h1 h2)
  have HRD := Lib.hid hR
  have HP := Lib.hid hp
  have HI := Lib.hid hRI
  have HRL := Lib.hid (hR.lt (by omega))
  obtain ⟨A, c, rfl, hlc⟩ := hR.shape
  generalize dirR back (tkN L n) = R at *
  clear hf hE hS hA hN hT hp HL hL hRI hR
  by_cases h0 : mx = 0
  · have HFIN : Hid (img (rpR R mn mx) p = p) := Lib.hid (by
      have e : mn = 0 := by omega
      subst e
      rw [rep_up HI.out HP.out 0 mx 0 (.inl ⟨by omega, by omega⟩), up_zero, show pw R 0 = Rl.id from rfl, img_id])
    subst h0
    go_enter Tryz.func52, Tryz.ntmps52
    go_wp2
    go_ret
    exact ⟨_, rfl, Ext.refl _, by rw [HFIN.out]; exact HRD.out, .inl rfl⟩
  have q0 : (mx == 0) = false := by simpa using h0
  go_enter Tryz.func52, Tryz.ntmps52
  go_wp2
  go_loopw [4, 20] (fun fv iv wr => ∃ k : Nat, k ≤ mn ∧ iv = .int .i64 k ∧ RdP wr fv nw (img (pw R k) p) ∧ (fv = .slice A nw c ∨ ∀ g, blkOf fv = some g → w.heap.size ≤ g) ∧ Ext w wr) (fun _ iv _ => mn - (intOf iv).toNat)
  case atStart => exact ⟨0, Nat.zero_le _, rfl, by rw [show pw R 0 = Rl.id from rfl, img_id]; exact HRD.out, .inl rfl, Ext.refl _⟩
  case round =>
    obtain ⟨k, hk, rfl, hr, hfrom, hx⟩ := hrel
    obtain ⟨w1, hw1⟩ : ∃ w, w = wr := ⟨_, rfl⟩
    subst hw1
    have HR1 := Lib.hid hr
    have HX1 := Lib.hid hx
    have HF1 := Lib.hid hfrom
    have hpk := HP.out.img (HI.out.pw k)
    have HPK := Lib.hid hpk
    obtain ⟨A1, c1, hv1, hlc1⟩ := hr.shape
    subst hv1
    clear hr hx hfrom hpk
    have hs01 := HX1.out.size
    by_cases hlt : k < mn
    · have q9 : (k : Int) < (mn : Int) := by omega
      have HC := Lib.hid (HLD.out w1 HX1.out _ _ HR1.out HPK.out)
      have HST : Hid (img R (img (pw R k) p) = img (pw R (k + 1)) p) := Lib.hid (img_pw HI.out HP.out k).symm
      rw [HST.out] at HC
      go_wp2_with (go_at_call 25; refine HC.out.mono ?_; rintro e w2 ⟨v2, rfl, hx2, hr2, hfrom2⟩)
      go_roundw
      case rel => exact ⟨k + 1, hlt, by go_num, hr2, (hfrom2.elim (fun h => by rw [h]; exact HF1.out) (fun h => .inr (fun g hg => Nat.le_trans hs01 (h g hg)))), HX1.out.trans hx2⟩
      case measure => simp [intOf]; omega
    · have q9 : ¬ (k : Int) < (mn : Int) := by omega
      obtain rfl : k = mn := by omega
      generalize hq : img (pw R k) p = q at *
      have HQ := Lib.hid hq
      have hNW := (HR1.out.ext ((Ext.refl w1).alloc (.cells #[] 22))).news (by omega)
      have HNW := Lib.hid hNW
      have hnlt := HR1.out.lt (by omega)
      have HNL := Lib.hid hnlt
      clear hNW hq hlt hnlt
      go_upto_region 8 with (at_builtin; refine wpList_appK rfl (.tmp 28) (.tmp 29) 68 rfl w1.heap.size 22 (.int .u64 0) 8 Tryz.underlying68 info_u64 rfl _ _ (pwC nw q) rfl (own_litU w1) HNW.out (pw_unary nw q) (by simp [pwC_len]; omega) (by simp [pwC_len]; omega) (by simp) ?_; intro v3 w3 own3 hg3 hat3 _; have hK3 := (Keeps.refl (fun k => k = w1.heap.size) (w1.alloc (.cells #[] 22))).grown hg3 (fun k hk => .inr (by injection hk with hk; exact hk.symm)); have hx13 : Ext w1 w3 := ((Ext.refl w1).alloc (.cells #[] 22)).keeps hK3 (fun _ h1 h2 => by omega); rw [List.nil_append] at own3; obtain ⟨g3, c3, cur3, hv3, hg3B, hb3, hlc3, _⟩ := own_words own3 (by omega); subst hv3)
      have hg3l := hb3.lt
      have hs13 := hx13.size
      have hg1 : ∀ g, blkOf (.slice A1 nw c1) = some g → g ≠ g3 := fun g hg e => by have := HNL.out g hg; omega
      have HO3 := Lib.hid own3
      have HX3 := Lib.hid (HX1.out.trans hx13)
      have HR3 := Lib.hid (HR1.out.ext hx13)
      have HG1 := Lib.hid hg1
      have HOR := Lib.hid (fun W v5 j (h1 : OwnP W w1.heap.size (.slice (some ⟨g3, 0, none⟩) nw c3) nw (upP R q j)) (h2 : RdP W v5 nw (img R (newP R q j))) (h3 : ∀ g, blkOf v5 = some g → (Value.slice (some ⟨g3, 0, none⟩) nw c3).ownBlock ≠ some g) =>
        joinP_any (.slice (some ⟨g3, 0, none⟩) nw c3) v5 w1.heap.size nw (upP R q j) (img R (newP R q j)) W h1 h2 h3 (h2.lt (by omega)) hnn (by omega))
      clear own3 hg3 hat3 hK3 hx13 hb3 HNW HR1 hg1 HNL HRL
      go_wp2
      go_loopw [14, 15] (fun lv nv wr => ∃ j : Nat, nv = .int .i64 ((k : Int) + j) ∧ (mx < 0 ∨ (k : Int) + j ≤ mx) ∧ j ≤ s.size + 2 ∧ OwnP wr w1.heap.size (.slice (some ⟨g3, 0, none⟩) nw c3) nw (upP R q j) ∧ RdP wr lv nw (newP R q j) ∧ (∀ g, blkOf lv = some g → g ≠ g3) ∧ Keeps (· = g3) w3 wr) (fun _ nv _ => s.size + 3 + k - (intOf nv).toNat)
      case atStart => exact ⟨0, by simp, by omega, by omega, by rw [up_zero]; exact HO3.out, HR3.out, HG1.out, Keeps.refl _ _⟩
      case round =>
        obtain ⟨j, rfl, hjm, hjs, ho, hl, hlg, hK⟩ := hrel
        obtain ⟨w4, hw4⟩ : ∃ w, w = wr := ⟨_, rfl⟩
        subst hw4
        have HO4 := Lib.hid ho
        have HL4 := Lib.hid hl
        have HG4 := Lib.hid hlg
        have HK4 := Lib.hid hK
        have HX4 := Lib.hid (HX3.out.keeps hK (fun i h1 h2 => by have h3 : i = g3 := h2; omega))
        obtain ⟨A4, c4, hv4, hlc4⟩ := hl.shape
        subst hv4
        have hs14 := HX4.out.size
        have hs34 := hK.size
        have HFIN : Hid (((0 ≤ mx ∧ (k : Int) + j = mx) ∨ newP R q j = noP ∧ (mx < 0 ∨ (k : Int) + j ≤ mx)) → upP R q j = img (rpR R k mx) p) := Lib.hid (fun h => by rw [rep_up HI.out HP.out k mx j (by rw [HQ.out]; exact h), HQ.out])
        clear ho hl hlg hK
        by_cases hend : 0 ≤ mx ∧ (k : Int) + j = mx
        · have q5 : ((k : Int) + j != mx) = false := by rw [bne_eq_false_iff_eq]; exact hend.2
          have HR := Lib.hid (HFIN.out (.inl hend))
          clear hend HFIN
          go_wp2
          go_ret
          exact ⟨_, rfl, HX4.out, by rw [← HR.out]; exact RdP.of_own HO4.out, .inr (fun g hg => by (injection hg with hg); have hg' : g3 = g := hg; omega)⟩
        have q5 : ((k : Int) + j != mx) = true := by rw [bne_iff_ne]; omega
        have HEM := Lib.hid (empty_any _ nw (newP R q j) w4 HL4.out hnn)
        by_cases hz : zeroW nw (newP R q j) = true
        · rw [hz] at HEM
          have HR := Lib.hid (HFIN.out (.inr ⟨(zeroW_no (PlN.new HI.out HPK.out j) hnw).1 hz, hjm⟩))
          clear hz HFIN hend
          go_wp2_with (go_at_call 72; refine HEM.out.mono ?_; rintro e w5 ⟨rfl, rfl⟩)
          go_ret
          exact ⟨_, rfl, HX4.out, by rw [← HR.out]; exact RdP.of_own HO4.out, .inr (fun g hg => by (injection hg with hg); have hg' : g3 = g := hg; omega)⟩
        · have hz' : zeroW nw (newP R q j) = false := by simpa using hz
          rw [hz'] at HEM
          have hjb : j ≤ s.size + 1 := new_bound HI.out HPK.out (fun e => hz ((zeroW_no (PlN.new HI.out HPK.out j) hnw).2 e))
          have HC := Lib.hid (HLD.out w4 HX4.out _ _ HL4.out (PlN.new HI.out HPK.out j))
          have hjm2 : mx < 0 ∨ (k : Int) + (j + 1 : Nat) ≤ mx := by omega
          clear hz hz' HFIN hend
          go_wp2_with (first
            | (go_at_call 72; refine HEM.out.mono ?_; rintro e w5 ⟨rfl, rfl⟩)
            | (go_at_call 25; refine HC.out.mono ?_; rintro e w6 ⟨v6, rfl, hx6, hr6, hfrom6⟩; have hs6 := hx6.size; have ho6 := HO4.out.ext hx6)
            | (go_at_call 51; refine (HOR.out w6 v6 j ho6 hr6 (fun g hg e => by
                have e2 : g = g3 := own_at e
                rcases hfrom6 with h | h
                · rw [h] at hg; exact HG4.out g hg e2
                · have := h g hg; omega)).mono ?_; rintro e w7 ⟨f7, rfl, hf7, ho7, hk7⟩))
          go_roundw
          case rel =>
            rw [round_new HI.out HPK.out] at hf7
            rw [round_all HI.out HPK.out] at ho7
            refine ⟨j + 1, by go_num, hjm2, by omega, ho7, RdP.of_own hf7, fun g hg e => ?_, HK4.out.trans ((Keeps.of_ext (F := (· = g3)) hx6).trans hk7 (fun i _ h => own_at h)) (fun _ _ h => h)⟩
            rw [own_blk hf7] at hg
            have := (hf7.own g hg).1
            omega
          case measure => simp [intOf]; omega
end

end Go.Proofs.YtgfknlkpdiejgaaGreatDoor
