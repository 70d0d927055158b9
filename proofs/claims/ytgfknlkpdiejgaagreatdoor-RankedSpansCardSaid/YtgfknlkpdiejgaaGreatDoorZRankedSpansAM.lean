/- The engine's functions on sets of places: add, empty, only. Condition: the words lie in memory. places.join as a contract: what is in the other is added, and what was new is told. Condition: the words lie in memory, in two blocks. The closures of lead as contracts: what a place adds over a byte, over a mark. Conditions: what they captured, the scene, the node and the words lie in memory. The lowest bit of a word struck out; what a loop over places has done, bit by bit. No program. -/
import Derived.Test.YtgfknlkpdiejgaaGreatDoorZRankedSpansAH
import Derived.BigQuiet
import Derived.Test.YtgfknlkpdiejgaaGreatDoorZRankedSpansAI
import Derived.Test.YtgfknlkpdiejgaaGreatDoorOctet
import Derived.Test.YtgfknlkpdiejgaaGreatDoorZRankedSpansAC
import Derived.Lib.TrailingZeros
import Derived.Shelf.Spec.TrailingZeros
namespace Go.Proofs.YtgfknlkpdiejgaaGreatDoor
open Go Go.RowKit

theorem pwC_set {nw : Nat} {p q : Pl} {j : Nat} (hq : ∀ k, k ≠ j → wd q k = wd p k) : (pwC nw p).set j (.int .u64 (wd q j)) = pwC nw q := by
  unfold pwC
  apply List.ext_getElem
  · simp
  · intro k h1 h2
    simp only [List.getElem_set, List.getElem_map, List.getElem_range]
    split
    · rename_i h; subst h; rfl
    · rename_i h; rw [hq k (fun e => h e.symm)]
/-- A word of an own row is written. -/
theorem OwnP.put {W : World} {B g n c nw : Nat} {p q : Pl} (h : OwnP W B (.slice (some ⟨g, 0, none⟩) n c) nw p) (j : Nat) (hq : ∀ k, k ≠ j → wd q k = wd p k) :
    OwnP (W.setCell ⟨g, j, none⟩ (.int .u64 (wd q j))) B (.slice (some ⟨g, 0, none⟩) n c) nw q := by
  obtain ⟨h1, h2⟩ := h
  rcases h2 with ⟨h0, _⟩ | ⟨g', cap, cur, hv, hg, hh, hnc, hm, hs, ht⟩
  · cases h0
  · simp only [Value.slice.injEq, Option.some.injEq, Addr.mk.injEq, and_true] at hv
    obtain ⟨rfl, rfl, rfl⟩ := hv
    have hb : Blk W g 22 cur := hh
    refine ⟨by simp, .inr ⟨g, c, cur.setIfInBounds j (.int .u64 (wd q j)), by rw [pwC_len, pwC_len], hg, hb.set j _, by rw [pwC_len] at hnc ⊢; exact hnc, hm, by simpa using hs, ?_⟩⟩
    rw [pwC_len] at ht ⊢
    rw [Array.toList_setIfInBounds, List.take_set, ht, pwC_set hq]
theorem own_words {W : World} {B nw : Nat} {v : Value} {p : Pl} (h : OwnP W B v nw p) (h0 : 0 < nw) : ∃ g c cur, v = .slice (some ⟨g, 0, none⟩) nw c ∧ B ≤ g ∧ Blk W g 22 cur ∧ nw ≤ c ∧ ∀ j, j < nw → W.cell? ⟨g, j, none⟩ = some (.int .u64 (wd p j)) := by
  rcases h.slice with ⟨_, h1⟩ | ⟨g, cap, cur, rfl, hg, hb, hlc, _, _⟩
  · have := congrArg List.length h1
    rw [pwC_len] at this
    simp only [List.length_nil] at this
    omega
  · have hc := h.cells.2
    rw [pwC_len] at hlc
    exact ⟨g, cap, cur, by rw [pwC_len], hg, hb, hlc, fun j hj => hc j _ (pwC_get hj)⟩

set_option maxRecDepth 100000 in
set_option maxHeartbeats 4000000 in
theorem add_any (v : Value) (B nw : Nat) (p : Pl) (i : Nat) (w : World) (h : OwnP w B v nw p) (hi : i / 64 < nw) (hnw : nw ≤ 100000000) :
    Calls Tryz.prog 48 #[v, .int .i64 i] w fun e w' => e = .returned (.tuple #[]) ∧ OwnP w' B v nw (insB p i) ∧ Keeps (fun k => v.ownBlock = some k) w w' := by
  obtain ⟨g, c, cur, rfl, hg, hb, hlc, hc⟩ := own_words h (by omega)
  have hcell := hc _ hi
  have hfz := hb.frozen (i / 64)
  have h3 := i64_mask63 i (by omega)
  have h1 : (i : Int) / 64 = ((i / 64 : Nat) : Int) := by omega
  have hr : i % 64 < 64 := by omega
  have hput := OwnP.put (q := insB p i) h (i / 64) (fun k hk => wd_ins_ne p i k hk)
  have hor := or_wd p i
  have HP := Lib.hid hput
  clear hc hb hput h
  generalize i / 64 = q at *
  generalize i % 64 = r at *
  go_enter Tryz.func48, Tryz.ntmps48
  go_wp2
  go_region
  all_goals go_wp2
  all_goals (go_end0; exact ⟨rfl, HP.out, ((Keeps.refl (fun k => (Value.slice (some ⟨g, 0, none⟩) nw c).ownBlock = some k) w).setCell (p := ⟨g, q, none⟩) (.inr rfl) _).drew⟩)

/-- No word of it has a bit. -/
def zeroW (nw : Nat) (p : Pl) : Bool := (List.range nw).all fun j => wd p j == 0
theorem zeroW_iff {nw : Nat} {p : Pl} : zeroW nw p = true ↔ ∀ j, j < nw → wd p j = 0 := by
  unfold zeroW
  simp [List.all_eq_true]
theorem zeroW_no {nw n : Nat} {p : Pl} (hp : PlN n p) (hn : n / 64 < nw) : zeroW nw p = true ↔ p = noP := by
  rw [zeroW_iff]
  constructor
  · intro h
    funext i
    rcases Bool.eq_false_or_eq_true (p i) with hi | hi
    · have h1 := hp i hi
      have h2 := h (i / 64) (by have : i / 64 ≤ n / 64 := Nat.div_le_div_right h1; omega)
      have h3 : (wd p (i / 64)).testBit (i % 64) = p i := by
        rw [wd_bit _ _ _ (by omega)]
        congr 1
        omega
      rw [h2, hi] at h3
      simp at h3
    · exact hi
  · rintro rfl j _
    exact wd_none j

set_option maxRecDepth 100000 in
set_option maxHeartbeats 4000000 in
theorem empty_any (v : Value) (nw : Nat) (p : Pl) (w : World) (h : RdP w v nw p) (hnw : nw ≤ 100000000) :
    Calls Tryz.prog 72 #[v] w fun e w' => e = .returned (.bool (zeroW nw p)) ∧ w = w' := by
  obtain ⟨A, c, rfl, hlc, hc⟩ := h
  have HC := Lib.hid hc
  clear hc
  generalize hz : zeroW nw p = z
  have HZ := Lib.hid hz
  clear hz
  go_enter Tryz.func72, Tryz.ntmps72
  go_wp2
  go_loopw [7] (fun iv wr => ∃ k : Nat, k ≤ nw ∧ iv = .int .i64 k ∧ w = wr ∧ Hid (∀ j, j < k → wd p j = 0)) (fun iv _ => nw - (intOf iv).toNat)
  case atStart => exact ⟨0, Nat.zero_le _, rfl, rfl, Lib.hid (fun j hj => by omega)⟩
  case round =>
    obtain ⟨k, hk, rfl, rfl, HB⟩ := hrel
    by_cases hlt : k < nw
    · have q9 : (k : Int) < (nw : Int) := by omega
      obtain ⟨g, o, rfl, hcell⟩ := HC.out k hlt
      have HW := Lib.hid (rfl : wd p k = wd p k)
      by_cases hw : wd p k = 0
      · have HB2 : Hid (∀ j, j < k + 1 → wd p j = 0) := Lib.hid (fun j hj => by
          rcases Nat.lt_or_ge j k with h | h
          · exact HB.out j h
          · rw [show j = k by omega]; exact hw)
        rw [hw] at hcell
        clear hw HW HB
        go_wp2
        go_roundw
        case rel => exact ⟨k + 1, hlt, by go_num, trivial, HB2⟩
        case measure => simp [intOf]; omega
      · have hzf : Hid (z = false) := Lib.hid (by
          rw [← HZ.out, Bool.eq_false_iff]
          intro h
          exact hw (zeroW_iff.1 h k hlt))
        have q8 : ((wd p k : Int) != 0) = true := by rw [bne_iff_ne]; omega
        clear hw HW HB
        generalize wd p k = x at *
        go_wp2
        go_ret
        exact ⟨by rw [hzf.out]; rfl, rfl⟩
    · have q9 : ¬ (k : Int) < (nw : Int) := by omega
      have hzt : Hid (z = true) := Lib.hid (by
        rw [← HZ.out]
        exact zeroW_iff.2 (fun j hj => HB.out j (by omega)))
      go_wp2
      go_ret
      exact ⟨by rw [hzt.out]; rfl, rfl⟩
set_option maxRecDepth 100000 in
set_option maxHeartbeats 4000000 in
theorem only_any (ev x sv : Value) (nw i : Nat) (w : World) (h : EnAt w ev x nw sv) (hn : nw ≤ 100000000) (hi : i / 64 < nw) :
    Calls Tryz.prog 26 #[ev, .int .i64 i] w fun e w' => ∃ v, e = .returned v ∧ OwnP w' w.heap.size v nw (oneP i) ∧ Ext w w' := by
  have HN := Lib.hid (none_any ev x sv nw w h hn)
  have HI : Hid (insB noP i = oneP i) := Lib.hid (by
    funext j
    unfold insB noP oneP
    rw [Bool.false_or, Bool.eq_iff_iff, beq_iff_eq, decide_eq_true_eq])
  obtain ⟨g, rfl, hb⟩ := h
  clear hb
  go_enter Tryz.func26, Tryz.ntmps26
  go_upto_region 2 with (go_at_call 43; refine HN.out.mono ?_; rintro e w1 ⟨v1, rfl, how1, hx1⟩)
  obtain ⟨A1, c1, hv1, _⟩ := how1.shape
  have HAD := Lib.hid (add_any v1 w.heap.size nw noP i w1 how1 hi hn)
  have HO := Lib.hid (fun k (hk : v1.ownBlock = some k) => (how1.own k hk).1)
  subst hv1
  clear how1 HN
  go_wp2_with (go_at_call 48; refine HAD.out.mono ?_; rintro e w2 ⟨rfl, how2, hk2⟩)
  rw [HI.out] at how2
  go_ret
  exact ⟨_, rfl, how2, hx1.keeps hk2 (fun k h1 h2 => by have := HO.out k h2; omega)⟩

end Go.Proofs.YtgfknlkpdiejgaaGreatDoor

namespace Go.Proofs.YtgfknlkpdiejgaaGreatDoor
open Go Go.RowKit

/-- The first k words of a, the others of b. -/
def mixP (k : Nat) (a b : Pl) : Pl := fun i => if i / 64 < k then a i else b i
theorem wd_mix (k : Nat) (a b : Pl) (j : Nat) : wd (mixP k a b) j = if j < k then wd a j else wd b j := by
  split
  · rename_i h
    refine wd_congr fun t ht => ?_
    unfold mixP
    rw [if_pos (by omega)]
  · rename_i h
    refine wd_congr fun t ht => ?_
    unfold mixP
    rw [if_neg (by omega)]
theorem pwC_mix_all (nw : Nat) (a b : Pl) : pwC nw (mixP nw a b) = pwC nw a := by
  unfold pwC
  apply List.map_congr_left
  intro j hj
  rw [wd_mix, if_pos (List.mem_range.1 hj)]
theorem pwC_mix_zero (nw : Nat) (a b : Pl) : pwC nw (mixP 0 a b) = pwC nw b := by
  unfold pwC
  apply List.map_congr_left
  intro j hj
  rw [wd_mix, if_neg (by omega)]
theorem wd_mix_succ {k j : Nat} {a b : Pl} (h : j ≠ k) : wd (mixP (k + 1) a b) j = wd (mixP k a b) j := by
  rw [wd_mix, wd_mix]
  by_cases h1 : j < k
  · rw [if_pos (by omega), if_pos h1]
  · rw [if_neg (by omega), if_neg h1]
theorem or_words' (p q : Pl) (i : Nat) : bits .or .u64 (wd p i : Int) (wd q i : Int) = (wd (orP p q) i : Int) := by
  have h1 : wd p i < 18446744073709551616 := wd_lt p i
  rw [show (bits .or .u64 (wd p i : Int) (wd q i : Int)) = ((wd p i ||| wd q i : Nat) : Int) from u64_or_nat _ _ (wd_lt p i) (wd_lt q i), wd_or]
  rfl

theorem own_at {g n c i : Nat} (h : (Value.slice (some ⟨g, 0, none⟩) n c).ownBlock = some i) : i = g := by
  injection h with h
  exact h.symm

set_option maxRecDepth 100000 in
set_option maxHeartbeats 8000000 in
theorem joinP_any (v u : Value) (B nw : Nat) (p q : Pl) (w : World) (h : OwnP w B v nw p) (hq : RdP w u nw q) (hne : ∀ g, blkOf u = some g → v.ownBlock ≠ some g) (hu : ∀ g, blkOf u = some g → g < w.heap.size) (hnw : nw ≤ 100000000) (h0 : 0 < nw) :
    Calls Tryz.prog 51 #[v, u] w fun e w' => ∃ f, e = .returned f ∧ OwnP w' w.heap.size f nw (lessP q p) ∧ OwnP w' B v nw (orP p q) ∧ Keeps (fun k => v.ownBlock = some k) w w' := by
  obtain ⟨g, c, cur, rfl, hg, hb, hlc, _⟩ := own_words h h0
  obtain ⟨A, d, rfl, hld, hcq⟩ := hq
  have HP := Lib.hid h
  have HQ : Hid (RdP w (.slice A nw d) nw q) := Lib.hid ⟨A, d, rfl, hld, hcq⟩
  have HNE := Lib.hid hne
  have HU := Lib.hid hu
  have hgl := hb.lt
  have hmk := made_pl nw hnw
  clear h hcq hne hu hb
  go_enter Tryz.func51, Tryz.ntmps51
  go_upto_region 2 with fail
  have how := own_made w nw noP hnw
  have hx1 : Ext w (w.alloc (.cells (pwC nw noP).toArray 22)) := (Ext.refl w).alloc _
  have hs1 : (w.alloc (.cells (pwC nw noP).toArray 22)).heap.size = w.heap.size + 1 := World.size_alloc _ _
  generalize w.alloc (.cells (pwC nw noP).toArray 22) = w1 at *
  have HF := Lib.hid how
  have HX1 := Lib.hid hx1
  clear how hx1 hmk
  generalize hfb : w.heap.size = fb at *
  go_wp2
  go_loopw [12] (fun iv wr => ∃ k : Nat, k ≤ nw ∧ iv = .int .i64 k ∧ OwnP wr fb (.slice (some ⟨fb, 0, none⟩) nw nw) nw (mixP k (lessP q p) noP) ∧ OwnP wr B (.slice (some ⟨g, 0, none⟩) nw c) nw (mixP k (orP p q) p) ∧ Keeps (fun i => i = g ∨ i = fb) w1 wr) (fun iv _ => nw - (intOf iv).toNat)
  case atStart =>
    refine ⟨0, Nat.zero_le _, rfl, ?_, ?_, Keeps.refl _ _⟩
    · show Own1 _ _ _ _ (pwC nw (mixP 0 _ _))
      rw [pwC_mix_zero]
      exact HF.out
    · show Own1 _ _ _ _ (pwC nw (mixP 0 _ _))
      rw [pwC_mix_zero]
      exact HP.out.ext HX1.out
  case round =>
    obtain ⟨k, hk, rfl, hf, hv, hK⟩ := hrel
    obtain ⟨w2, hw2⟩ : ∃ w, w = wr := ⟨_, rfl⟩
    subst hw2
    by_cases hlt : k < nw
    · have q9 : (k : Int) < (nw : Int) := by omega
      obtain ⟨gf, cf, curf, hsf, _, hbf, _, hcf⟩ := own_words hf h0
      injection hsf with e1 _ e3
      injection e1 with e1
      injection e1 with e1
      subst e1
      clear e3
      obtain ⟨gv, cv, curv, hsv, _, hbv, _, hcv⟩ := own_words hv h0
      injection hsv with e1 _ e3
      injection e1 with e1
      injection e1 with e1
      subst e1
      clear e3
      have hrq := (HQ.out.ext HX1.out).keeps hK (fun i hi h => by
        rcases h with h | h
        · exact HNE.out i hi (by rw [h]; rfl)
        · have := HU.out i hi; omega)
      obtain ⟨_, _, hsq, _, hcq⟩ := hrq
      injection hsq with e1 _ e3
      subst e1
      clear e3
      obtain ⟨gq, oq, hA, cq⟩ := hcq k hlt
      subst hA
      have cf := hcf k hlt
      have cv := hcv k hlt
      rw [wd_mix, if_neg (by omega)] at cv
      have zf := hbf.frozen k
      have zv := hbv.frozen k
      have HFF := Lib.hid hf
      have HVV := Lib.hid hv
      have HKK := Lib.hid hK
      have HAN := Lib.hid (andNot_wd q p k)
      have HOR := Lib.hid (or_words' p q k)
      have hneq : ¬ gq = fb := fun e => by have := HU.out gq rfl; omega
      clear hf hv hK hcv hcf hbf hbv hcq
      go_upto_region 5 with fail
      have han := HAN.out
      go_cut [] (fun wx => OwnP wx fb (.slice (some ⟨fb, 0, none⟩) nw nw) nw (mixP (k + 1) (lessP q p) noP) ∧ Keeps (· = fb) w2 wx)
      case first =>
        go_region
        all_goals go_wp2
        all_goals go_meet
        all_goals
          have hput := OwnP.put (q := mixP (k + 1) (lessP q p) noP) HFF.out k (fun j hj => wd_mix_succ hj)
          rw [wd_mix, if_pos (Nat.lt_succ_self k)] at hput
          exact ⟨hput, ((Keeps.refl (· = fb) w2).setCell (p := ⟨fb, k, none⟩) (.inr rfl) _).drew⟩
      obtain ⟨hf3, hk3⟩ := hcut
      obtain ⟨w3, hw3⟩ : ∃ w, w = wc := ⟨_, rfl⟩
      subst hw3
      have hneg : ¬ g = fb := by omega
      have cv3 := cell_keeps cv hk3 hneg
      have cq3 := cell_keeps cq hk3 hneq
      have hvv := HVV.out.keeps hk3 (fun i hi h => hneg ((own_at hi).symm.trans h))
      obtain ⟨_, _, curv, hsv, _, hbv, _, _⟩ := own_words hvv h0
      injection hsv with e1 _ e3
      injection e1 with e1
      injection e1 with e1
      subst e1
      clear e3
      have zv3 := hbv.frozen k
      have HV3 := Lib.hid hvv
      have HF3 := Lib.hid hf3
      have HK3 := Lib.hid hk3
      have hor := HOR.out
      clear cv cq cf zf zv han hvv hbv hf3 hk3
      go_upto_region 6 with fail
      go_region
      all_goals
        go_wp2
        go_roundw
        case rel =>
          have hput := OwnP.put (q := mixP (k + 1) (orP p q) p) HV3.out k (fun j hj => wd_mix_succ hj)
          rw [wd_mix, if_pos (Nat.lt_succ_self k)] at hput
          have hk4 := ((Keeps.refl (· = g) w3).setCell (p := ⟨g, k, none⟩) (.inr rfl) (.int .u64 (wd (orP p q) k))).drew
          exact ⟨k + 1, hlt, by go_num, HF3.out.keeps hk4 (fun i hi h => hneg ((own_at hi).symm.trans h).symm), hput, ((HKK.out.trans HK3.out (fun i _ h => .inr h)).trans hk4 (fun i _ h => .inl h))⟩
        case measure => simp [intOf]; omega
    · have q9 : ¬ (k : Int) < (nw : Int) := by omega
      obtain rfl : k = nw := by omega
      have hf' : OwnP w2 fb (.slice (some ⟨fb, 0, none⟩) k k) k (lessP q p) := by
        show Own1 _ _ _ _ (pwC _ _)
        rw [← pwC_mix_all k (lessP q p) noP]
        exact hf
      have hv' : OwnP w2 B (.slice (some ⟨g, 0, none⟩) k c) k (orP p q) := by
        show Own1 _ _ _ _ (pwC _ _)
        rw [← pwC_mix_all k (orP p q) p]
        exact hv
      have HF' := Lib.hid hf'
      have HV' := Lib.hid hv'
      have HKK := Lib.hid hK
      clear hf hv hK hf' hv'
      go_wp2
      go_ret
      refine ⟨_, rfl, HF'.out, HV'.out, ?_⟩
      have h1 : Keeps (fun i => i = g ∨ i = fb) w w2 := (Keeps.of_ext (F := fun i => i = g ∨ i = fb) HX1.out).trans HKK.out (fun _ _ h => h)
      refine h1.mono (fun i hi h => ?_)
      rcases h with h | h
      · rw [h]; rfl
      · omega

end Go.Proofs.YtgfknlkpdiejgaaGreatDoor

namespace Go.Proofs.YtgfknlkpdiejgaaGreatDoor
open Go Go.RowKit

/-- What a place adds: one byte on, or back. -/
def addB (s : ByteArray) (st : Nat → Bool) (back : Bool) (i : Nat) : Pl :=
  if sHas s (if back then (i : Int) - 1 else i) && st (s.data.toList.getD (if back then (i : Int) - 1 else i).toNat 0).toNat then oneP (if back then i - 1 else i + 1) else noP
/-- .. a mark. -/
def addM (m : List UInt8) (mk : Int) (i : Nat) : Pl := if bits .and .i64 (sMark m i) mk != 0 then oneP i else noP
theorem or_one_ins (p : Pl) (j : Nat) : insB p j = orP p (oneP j) := by
  funext k
  unfold insB orP oneP
  congr 1
theorem or_no (p : Pl) : orP p noP = p := by
  funext k
  unfold orP noP
  rw [Bool.or_false]

set_option maxRecDepth 100000 in
set_option maxHeartbeats 8000000 in
theorem leadA_any (i : Nat) (back : Bool) (ev x sv : Value) (nw tg tk : Nat) (h : Hd) (svn tov : Value) (B : Nat) (acc : Pl) (s : ByteArray) (m : List UInt8) (bk be bt bto bs : Nat) (w : World)
    (hbk : w.cell? ⟨bk, 0, none⟩ = some (.bool back)) (hbe : w.cell? ⟨be, 0, none⟩ = some ev) (hbt : w.cell? ⟨bt, 0, none⟩ = some (.pointer (some ⟨tg, tk, none⟩))) (hbto : w.cell? ⟨bto, 0, none⟩ = some tov)
    (hbs : w.cell? ⟨bs, 0, none⟩ = some (.int .i64 (if back then -1 else 1))) (hE : EnAt w ev x nw sv) (hS : IsScene w x s m) (hN : NdAt w tg tk h svn) (hO : OwnP w B tov nw acc) (hi : i ≤ s.size) (hnw : s.size / 64 < nw) (hnn : nw ≤ 100000000) (hss : s.size ≤ 1000000) :
    Calls Tryz.prog 45 #[.int .i64 i, .pointer (some ⟨bk, 0, none⟩), .pointer (some ⟨be, 0, none⟩), .pointer (some ⟨bt, 0, none⟩), .pointer (some ⟨bto, 0, none⟩), .pointer (some ⟨bs, 0, none⟩)] w
      fun e w' => e = .returned (.tuple #[]) ∧ OwnP w' B tov nw (orP acc (addB s h.set back i)) ∧ Keeps (fun k => tov.ownBlock = some k) w w' := by
  obtain ⟨a, ha⟩ : ∃ a : Int, a = if back then (i : Int) - 1 else i := ⟨_, rfl⟩
  have HY := Lib.hid (byte_any x s m a w hS)
  obtain ⟨ge, rfl, hge⟩ := hE
  have e0 : w.cell? ⟨ge, 0, none⟩ = some x := hge.cell 0
  have n1 : w.cell? ⟨tg, tk + 1, none⟩ = some (u64v (wd h.set 0)) := hN 1 (by decide)
  have n2 : w.cell? ⟨tg, tk + 2, none⟩ = some (u64v (wd h.set 1)) := hN 2 (by decide)
  have n3 : w.cell? ⟨tg, tk + 3, none⟩ = some (u64v (wd h.set 2)) := hN 3 (by decide)
  have n4 : w.cell? ⟨tg, tk + 4, none⟩ = some (u64v (wd h.set 3)) := hN 4 (by decide)
  have HO := Lib.hid hO
  obtain ⟨A, c, hv, _⟩ := hO.shape
  rw [pwC_len] at hv
  subst hv
  have HA := Lib.hid ha
  generalize hst : h.set = st at *
  clear hge hN hO hS ha hst
  go_enter Tryz.func45, Tryz.ntmps45
  go_upto_region 1 with fail
  go_cut [11] (fun v wx => v = .bool back ∧ w = wx)
  case first =>
    go_wp2
    go_meet
    case rel => exact ⟨rfl, rfl⟩
  obtain ⟨rfl, rfl⟩ := hcut
  go_step
  go_cut [7, 11] (fun v _ wx => v = .int .i64 a ∧ w = wx)
  case first =>
    cases back with
    | true =>
      go_wp2
      go_meet
      case rel => exact ⟨by rw [HA.out]; rfl, rfl⟩
    | false =>
      go_wp2
      go_meet
      case rel => exact ⟨by rw [HA.out]; rfl, rfl⟩
  obtain ⟨rfl, rfl⟩ := hcut
  by_cases hin : sHas s a = true
  · have hin2 : 0 ≤ a ∧ a < s.size := by unfold sHas at hin; simpa using hin
    have hby : sByte s a = ((s.data.toList.getD a.toNat 0).toNat : Int) := by unfold sByte; rw [if_pos hin2]
    have hbl := (s.data.toList.getD a.toNat 0).toNat_lt
    rw [hin, hby] at HY
    have HAD : Hid (addB s st back i = if st (s.data.toList.getD a.toNat 0).toNat then oneP (if back then i - 1 else i + 1) else noP) := Lib.hid (by unfold addB; rw [← HA.out, hin, Bool.true_and])
    generalize (s.data.toList.getD a.toNat 0).toNat = byt at *
    have HH := Lib.hid (fun W => has_any st byt W hbl)
    unfold setV at HH
    obtain ⟨j, hj⟩ : ∃ j : Nat, (i : Int) + (if back then -1 else 1) = j ∧ (if back then i - 1 else i + 1) = j ∧ j ≤ s.size := by
      have := HA.out
      cases back with
      | true => simp only [if_true] at this; exact ⟨i - 1, by simp only [if_true]; omega, rfl, by omega⟩
      | false => simp only [Bool.false_eq_true, if_false] at this; exact ⟨i + 1, by simp only [Bool.false_eq_true, if_false]; omega, rfl, by omega⟩
    obtain ⟨hj1, hj2, hj3⟩ := hj
    rw [hj2] at HAD
    have HADD := Lib.hid (fun W (h : OwnP W B (.slice A nw c) nw acc) => add_any (.slice A nw c) B nw acc j W h (by have : j / 64 ≤ s.size / 64 := Nat.div_le_div_right hj3; omega) hnn)
    generalize (if back then (-1 : Int) else 1) = stp at *
    have HJ1 := Lib.hid hj1
    have hw1 : IntKind.i64.wrap ((i : Int) + stp) = (j : Int) := by rw [hj1, IntKind.wrap_i64]; omega
    clear hin hin2 hby HA hj1 hj2
    cases hsb : st byt with
    | true =>
      rw [hsb] at HH HAD
      rw [if_pos rfl] at HAD
      clear hsb
      go_wp2_with (first
        | (go_at_call 46; refine HY.out.mono ?_; rintro e w3 ⟨rfl, rfl⟩)
        | (go_at_call 47; refine (HH.out _).mono ?_; rintro e w4 ⟨rfl, hx4⟩; have hbto4 := hx4.cell hbto; have hbs4 := hx4.cell hbs)
        | (go_at_call 48; refine (HADD.out _ (HO.out.ext hx4)).mono ?_; rintro e w5 ⟨rfl, hO5, hk5⟩))
      go_end0
      exact ⟨rfl, by rw [HAD.out, ← or_one_ins]; exact hO5, (Keeps.of_ext hx4).trans hk5 (fun _ _ h => h)⟩
    | false =>
      rw [hsb] at HH HAD
      rw [if_neg (by decide)] at HAD
      clear hsb HADD
      go_wp2_with (first
        | (go_at_call 46; refine HY.out.mono ?_; rintro e w3 ⟨rfl, rfl⟩)
        | (go_at_call 47; refine (HH.out _).mono ?_; rintro e w4 ⟨rfl, hx4⟩))
      go_end0
      exact ⟨rfl, by rw [HAD.out, or_no]; exact HO.out.ext hx4, Keeps.of_ext hx4⟩
  · have hin' : sHas s a = false := by simpa using hin
    rw [hin'] at HY
    have HAD : Hid (addB s st back i = noP) := Lib.hid (by unfold addB; rw [← HA.out, hin', Bool.false_and]; rfl)
    clear hin hin' n1 n2 n3 n4 HA
    go_wp2_with (go_at_call 46; refine HY.out.mono ?_; rintro e w3 ⟨rfl, rfl⟩)
    go_end0
    exact ⟨rfl, by rw [HAD.out, or_no]; exact HO.out, Keeps.refl _ _⟩

set_option maxRecDepth 100000 in
set_option maxHeartbeats 8000000 in
theorem leadB_any (i : Nat) (ev x sv : Value) (nw : Nat) (tov : Value) (B : Nat) (acc : Pl) (s : ByteArray) (m : List UInt8) (mk : Int) (be bm bto : Nat) (w : World)
    (hbe : w.cell? ⟨be, 0, none⟩ = some ev) (hbm : w.cell? ⟨bm, 0, none⟩ = some (.int .i64 mk)) (hbto : w.cell? ⟨bto, 0, none⟩ = some tov)
    (hE : EnAt w ev x nw sv) (hS : IsScene w x s m) (hO : OwnP w B tov nw acc) (hi : i / 64 < nw) (hnn : nw ≤ 100000000) (hm : m.length ≤ 10000000) :
    Calls Tryz.prog 49 #[.int .i64 i, .pointer (some ⟨be, 0, none⟩), .pointer (some ⟨bm, 0, none⟩), .pointer (some ⟨bto, 0, none⟩)] w
      fun e w' => e = .returned (.tuple #[]) ∧ OwnP w' B tov nw (orP acc (addM m mk i)) ∧ Keeps (fun k => tov.ownBlock = some k) w w' := by
  have HM := Lib.hid (fun W (hW : Ext w W) => marks_any x s m i W hm (hS.ext hW))
  obtain ⟨ge, rfl, hge⟩ := hE
  have e0 := cell_plus (show w.cell? ⟨ge, 0, none⟩ = some x from hge.cell 0)
  have e1 := cell_plus hbe
  have e2 := cell_plus hbm
  have e3 := cell_plus hbto
  have HO := Lib.hid hO
  have HADD := Lib.hid (fun W (hW : Ext w W) => add_any tov B nw acc i W (hO.ext hW) hi hnn)
  obtain ⟨A, c, hv, _⟩ := hO.shape
  rw [pwC_len] at hv
  subst hv
  have HAD : Hid (addM m mk i = if (bits .and .i64 (sMark m i) mk != 0) = true then oneP i else noP) := Lib.hid rfl
  clear hge hO hS
  generalize sMark m i = q at *
  clear hbe hbm hbto
  cases hq : (bits .and .i64 q mk != 0) with
  | true =>
    rw [hq, if_pos rfl] at HAD
    go_enter Tryz.func49, Tryz.ntmps49
    go_upto_region 0 with fail
    refine wp_region_plus (by kernel_rfl) (by kernel_rfl) ?_
    repeat (go_big_quiet_step ((go_at_call 50; exact Calls.plus_of_same (HM.out _ (plus_ext _ _)))))
    refine wpQuiet_nil ?_
    intro y
    have e3' := e3 y
    clear e0 e1 e2 e3
    go_wp2_with (go_at_call 48; refine (HADD.out _ (plus_ext _ _)).mono ?_; rintro e w5 ⟨rfl, hO5, hk5⟩)
    go_end0
    exact ⟨rfl, by rw [HAD.out, ← or_one_ins]; exact hO5, (Keeps.of_ext (plus_ext w y)).trans hk5 (fun _ _ h => h)⟩
  | false =>
    rw [hq, if_neg (by decide)] at HAD
    go_enter Tryz.func49, Tryz.ntmps49
    go_upto_region 0 with fail
    refine wp_region_plus (by kernel_rfl) (by kernel_rfl) ?_
    repeat (go_big_quiet_step ((go_at_call 50; exact Calls.plus_of_same (HM.out _ (plus_ext _ _)))))
    refine wpQuiet_nil ?_
    intro y
    clear e0 e1 e2 e3
    go_wp2
    go_end0
    exact ⟨rfl, by rw [HAD.out, or_no]; exact HO.out.ext (plus_ext w y), Keeps.of_ext (plus_ext w y)⟩

end Go.Proofs.YtgfknlkpdiejgaaGreatDoor

namespace Go.Proofs.YtgfknlkpdiejgaaGreatDoor
open Classical

theorem low_clear {x : Nat} (h0 : x ≠ 0) (hx : x < 18446744073709551616) (j : Nat) : (x &&& (x - 1)).testBit j = (x.testBit j && decide (j ≠ Go.Lib.ctz 64 x)) := by
  obtain ⟨m, hm, hk⟩ := Go.Lib.ctzFrom_spec 64 x (by omega) hx
  have e : Go.Lib.ctz 64 x = Go.Lib.ctzFrom 64 x := by simp [Go.Lib.ctz, h0]
  rw [e]
  generalize Go.Lib.ctzFrom 64 x = c at *
  have hp : 0 < 2 ^ c := Nat.pow_pos (by decide)
  have h1 : x - 1 = 2 ^ c * (2 * m) + (2 ^ c - 1) := by rw [hm, Nat.mul_add, Nat.mul_one]; omega
  have h2 : x = 2 ^ c * (2 * m + 1) + 0 := by rw [hm]; rfl
  rw [Nat.testBit_and, h1]
  conv => lhs; rw [h2]
  conv => rhs; rw [h2]
  rw [Nat.testBit_two_pow_mul_add _ hp, Nat.testBit_two_pow_mul_add _ (by omega)]
  by_cases hj : j < c
  · rw [if_pos hj, if_pos hj]
    simp
  · rw [if_neg hj, if_neg hj]
    by_cases hc : j = c
    · subst hc
      rw [Nat.sub_self]
      simp [Nat.testBit_zero]
    · obtain ⟨d, hd⟩ : ∃ d, j - c = d + 1 := ⟨j - c - 1, by omega⟩
      rw [hd, Nat.testBit_succ, Nat.testBit_succ, show (2 * m + 1) / 2 = m by omega, show 2 * m / 2 = m by omega]
      simp [hc]
theorem low_less {x : Nat} (h0 : x ≠ 0) : (x &&& (x - 1)) < x := by
  have := @Nat.and_le_right x (x - 1)
  omega
/-- What is added by the places that are done. -/
noncomputable def accD (acc0 : Pl) (add : Nat → Pl) (D : Pl) : Pl := orP acc0 (fun j => decide (∃ i, D i = true ∧ add i j = true))
theorem accD_none (acc0 : Pl) (add : Nat → Pl) {D : Pl} (h : ∀ i, D i = false) : accD acc0 add D = acc0 := by
  funext j
  unfold accD orP
  have : decide (∃ i, D i = true ∧ add i j = true) = false := by
    rw [decide_eq_false_iff_not]
    rintro ⟨i, h1, _⟩
    rw [h i] at h1
    cases h1
  show (acc0 j || decide (∃ i, D i = true ∧ add i j = true)) = acc0 j
  rw [this, Bool.or_false]
theorem accD_step (acc0 : Pl) (add : Nat → Pl) {D D' : Pl} (i : Nat) (h : ∀ k, D' k = (D k || decide (k = i))) : orP (accD acc0 add D) (add i) = accD acc0 add D' := pl_ext fun j => by
  unfold accD orP
  simp only [Bool.or_eq_true, decide_eq_true_eq]
  constructor
  · rintro ((h1 | ⟨k, h1, h2⟩) | h1)
    · exact .inl h1
    · exact .inr ⟨k, by rw [h, h1]; rfl, h2⟩
    · exact .inr ⟨i, by rw [h]; simp, h1⟩
  · rintro (h1 | ⟨k, h1, h2⟩)
    · exact .inl (.inl h1)
    · rw [h, Bool.or_eq_true, decide_eq_true_eq] at h1
      rcases h1 with h1 | h1
      · exact .inl (.inr ⟨k, h1, h2⟩)
      · exact .inr (by rw [← h1]; exact h2)
/-- The places below word k. -/
def lowP (p : Pl) (k : Nat) : Pl := fun i => p i && decide (i / 64 < k)
/-- .. and those of word k that are struck out of x. -/
def bitP (p : Pl) (k x : Nat) : Pl := fun i => p i && (decide (i / 64 < k) || (decide (i / 64 = k) && !x.testBit (i % 64)))
theorem bit_start (p : Pl) (k : Nat) : bitP p k (wd p k) = lowP p k := by
  funext i
  unfold bitP lowP
  by_cases h : i / 64 = k
  · have hb : (wd p k).testBit (i % 64) = p i := by
      rw [wd_bit _ _ _ (by omega)]
      congr 1
      omega
    rw [hb]
    cases p i <;> simp
  · have e : decide (i / 64 = k) = false := by simpa using h
    rw [e, Bool.false_and, Bool.or_false]
theorem bit_end (p : Pl) (k : Nat) : bitP p k 0 = lowP p (k + 1) := by
  funext i
  unfold bitP lowP
  rw [Nat.zero_testBit, Bool.not_false, Bool.and_true, ← Bool.decide_or]
  congr 1
  rw [decide_eq_decide]
  omega
theorem bit_step (p : Pl) (k x : Nat) (h0 : x ≠ 0) (hx : x < 18446744073709551616) (hc : Go.Lib.ctz 64 x < 64) (hp : p (64 * k + Go.Lib.ctz 64 x) = true) (i : Nat) :
    bitP p k (x &&& (x - 1)) i = (bitP p k x i || decide (i = 64 * k + Go.Lib.ctz 64 x)) := by
  unfold bitP
  rw [low_clear h0 hx]
  by_cases h1 : i = 64 * k + Go.Lib.ctz 64 x
  · have e1 : i / 64 = k := by omega
    have e2 : i % 64 = Go.Lib.ctz 64 x := by omega
    have hpi : p i = true := by rw [h1]; exact hp
    rw [e1, e2, hpi, decide_eq_true h1]
    simp
  · have e : decide (i = 64 * k + Go.Lib.ctz 64 x) = false := by simpa using h1
    rw [e, Bool.or_false]
    by_cases h2 : i / 64 = k
    · have h3 : i % 64 ≠ Go.Lib.ctz 64 x := by omega
      simp [h3]
    · have e2 : decide (i / 64 = k) = false := by simpa using h2
      rw [e2, Bool.false_and, Bool.false_and]

end Go.Proofs.YtgfknlkpdiejgaaGreatDoor
