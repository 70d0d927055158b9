/- The reference's places: rows of bools. None, some, Only, both, without as contracts. Condition: the rows lie in memory. The reference's leaf law, turned and not; the turned tree in the turned scene. No program. The reference's Has as a contract over the set's bytes. No condition. The reference's leaf as a contract. Condition: the place is one of the subject's. -/
import Derived.Test.YtgfknlkpdiejgaaGreatDoorZRankedSpansAH
import Derived.Test.YtgfknlkpdiejgaaGreatDoorZRankedSpansAM
import Derived.Test.YtgfknlkpdiejgaaGreatDoorZRankedSpansAB
import Derived.Test.YtgfknlkpdiejgaaGreatDoorZRankedSpansAI
import Derived.Test.YtgfknlkpdiejgaaGreatDoorSetA
import Derived.Test.YtgfknlkpdiejgaaGreatDoorZRankedSpansAC
import Derived.Carry
import Derived.Test.YtgfknlkpdiejgaaGreatDoorZRankedSpansAN
import Derived.Test.YtgfknlkpdiejgaaGreatDoorZRankedSpansAJ
import Derived.Test.YtgfknlkpdiejgaaGreatDoorZRankedSpansAL
import Derived.Test.YtgfknlkpdiejgaaGreatDoorZRankedSpansAA
import Derived.Test.YtgfknlkpdiejgaaGreatDoorBits
import Derived.Test.YtgfknlkpdiejgaaGreatDoorSetC
import Derived.Test.YtgfknlkpdiejgaaGreatDoorProg
namespace Go.Proofs.YtgfknlkpdiejgaaGreatDoor
open Go Go.RowKit

theorem info_bl : (Tryz.prog.info? 4).map (fun i => (i.zero, i.size, i.bytes)) = some (some (.bool false), 1, 1) := by kernel_rfl
def bsC (n : Nat) (p : Pl) : List Value := (List.range n).map fun j => Value.bool (p j)
theorem bsC_len (n : Nat) (p : Pl) : (bsC n p).length = n := by simp [bsC]
theorem bsC_get {n : Nat} {p : Pl} {j : Nat} (h : j < n) : (bsC n p)[j]? = some (.bool (p j)) := by
  unfold bsC
  rw [List.getElem?_map, List.getElem?_range h]
  rfl
theorem bsC_congr {n : Nat} {p q : Pl} (h : ∀ j, j < n → p j = q j) : bsC n p = bsC n q := by
  unfold bsC
  apply List.map_congr_left
  intro j hj
  rw [h j (List.mem_range.1 hj)]
/-- A slice of bools reads as a set of places. -/
def RdBl (W : World) (v : Value) (n : Nat) (p : Pl) : Prop := ∃ A c, v = .slice A n c ∧ ∀ j, j < n → ∃ g o, A = some ⟨g, o, none⟩ ∧ W.cell? ⟨g, o + j, none⟩ = some (.bool (p j))
theorem RdBl.ext {W W' : World} {v : Value} {n : Nat} {p : Pl} (h : RdBl W v n p) (hx : Ext W W') : RdBl W' v n p := by
  obtain ⟨A, c, hv, hc⟩ := h
  exact ⟨A, c, hv, fun j hj => by obtain ⟨g, o, hA, h1⟩ := hc j hj; exact ⟨g, o, hA, hx.cell h1⟩⟩
abbrev OwnBl (W : World) (B : Nat) (v : Value) (n : Nat) (p : Pl) : Prop := Own1 W B 4 v (bsC n p)
theorem RdBl.of_own {W : World} {B n : Nat} {v : Value} {p : Pl} (h : OwnBl W B v n p) : RdBl W v n p := by
  rcases h.slice with ⟨rfl, h0⟩ | ⟨g, cap, cur, rfl, _, _, hlc, _⟩
  · have : n = 0 := by rw [← bsC_len n p, h0]; rfl
    subst this
    exact ⟨none, 0, rfl, fun j hj => absurd hj (Nat.not_lt_zero j)⟩
  · refine ⟨some ⟨g, 0, none⟩, cap, by rw [bsC_len], fun j hj => ⟨g, 0, rfl, ?_⟩⟩
    rw [Nat.zero_add]
    exact h.cells.2 j _ (bsC_get hj)
theorem bsC_no (n : Nat) : bsC n noP = List.replicate n (.bool false) := by
  rw [List.eq_replicate_iff]
  refine ⟨bsC_len _ _, fun b hb => ?_⟩
  obtain ⟨j, _, rfl⟩ := List.mem_map.1 hb
  rfl
theorem made_bl (n : Nat) : madeCells #[Value.bool false] n = (bsC n noP).toArray := by
  rw [bsC_no]
  apply Array.ext
  · simp [madeCells]
  · intro i h1 h2
    simp [madeCells, Nat.mod_one]
theorem made_bs (n : Nat) (hn : n ≤ 100000000) (W : World) : (Instr.makeSlice 112 (.int .i64 (n : Int)) (.int .i64 (n : Int))).run Tryz.prog W =
    .ok (.slice (some ⟨W.heap.size, 0, none⟩) n n) (W.alloc (.cells (bsC n noP).toArray 4)) := by
  obtain ⟨i0, hi0, hz0, hz1, hz2⟩ := info_parts info_bl
  have := run_make (P := Tryz.prog) W 112 4 i0 (.bool false) Tryz.underlying112 hi0 hz0 .i64 .i64 (n : Int) (n : Int) (by omega) (by omega) (by rw [hz2]; omega) (by omega)
  rw [this]
  rw [Int.toNat_natCast, hz1, Nat.mul_one]
  simp [Value.cells, made_bl]
theorem own_madeB (W : World) (n : Nat) (p : Pl) (hn : n ≤ 100000000) : OwnBl (W.alloc (.cells (bsC n p).toArray 4)) W.heap.size (.slice (some ⟨W.heap.size, 0, none⟩) n n) n p := by
  have hb : Blk (W.alloc (.cells (bsC n p).toArray 4)) W.heap.size 4 (bsC n p).toArray := Blk.new W _ _
  refine ⟨by rw [bsC_len, Nat.mul_one], .inr ⟨W.heap.size, n, (bsC n p).toArray, by rw [bsC_len], Nat.le_refl _, hb, by rw [bsC_len]; exact Nat.le_refl _, by simp only [maxLen]; omega, by simp [bsC_len], ?_⟩⟩
  rw [bsC_len]
  simp only [Nat.mul_one]
  exact List.take_of_length_le (by rw [bsC_len]; exact Nat.le_refl _)
theorem bsC_set {n : Nat} {p q : Pl} {j : Nat} (hq : ∀ k, k ≠ j → q k = p k) : (bsC n p).set j (.bool (q j)) = bsC n q := by
  apply List.ext_getElem?
  intro i
  by_cases h : i = j
  · subst h
    by_cases hi : i < n
    · rw [List.getElem?_set_self (by rw [bsC_len]; exact hi), bsC_get hi]
    · rw [List.getElem?_eq_none (by rw [List.length_set, bsC_len]; omega), List.getElem?_eq_none (by rw [bsC_len]; omega)]
  · rw [List.getElem?_set_ne (fun e => h e.symm)]
    by_cases hi : i < n
    · rw [bsC_get hi, bsC_get hi, hq i h]
    · rw [List.getElem?_eq_none (by rw [bsC_len]; omega), List.getElem?_eq_none (by rw [bsC_len]; omega)]
theorem OwnBl.put {W : World} {B g n c m : Nat} {p q : Pl} (h : OwnBl W B (.slice (some ⟨g, 0, none⟩) m c) n p) (j : Nat) (hq : ∀ k, k ≠ j → q k = p k) :
    OwnBl (W.setCell ⟨g, j, none⟩ (.bool (q j))) B (.slice (some ⟨g, 0, none⟩) m c) n q := by
  obtain ⟨h1, h2⟩ := h
  rcases h2 with ⟨h0, _⟩ | ⟨g', cap, cur, hv, hg, hh, hnc, hm, hs, ht⟩
  · cases h0
  · simp only [Value.slice.injEq, Option.some.injEq, Addr.mk.injEq, and_true] at hv
    obtain ⟨rfl, rfl, rfl⟩ := hv
    have hb : Blk W g 4 cur := hh
    refine ⟨by simp, .inr ⟨g, c, cur.setIfInBounds j (.bool (q j)), by rw [bsC_len, bsC_len], hg, hb.set j _, by rw [bsC_len] at hnc ⊢; exact hnc, hm, by simpa using hs, ?_⟩⟩
    rw [bsC_len] at ht ⊢
    rw [Array.toList_setIfInBounds, List.take_set, ht, bsC_set hq]
theorem own_bools {W : World} {B n : Nat} {v : Value} {p : Pl} (h : OwnBl W B v n p) (h0 : 0 < n) : ∃ g c cur, v = .slice (some ⟨g, 0, none⟩) n c ∧ B ≤ g ∧ Blk W g 4 cur ∧ n ≤ c ∧ ∀ j, j < n → W.cell? ⟨g, j, none⟩ = some (.bool (p j)) := by
  rcases h.slice with ⟨_, h1⟩ | ⟨g, cap, cur, rfl, hg, hb, hlc, _, _⟩
  · have := congrArg List.length h1
    rw [bsC_len] at this
    simp at this
    omega
  · refine ⟨g, cap, cur, by rw [bsC_len], hg, hb, by rwa [bsC_len] at hlc, fun j hj => h.cells.2 j _ (bsC_get hj)⟩
def insB1 (p : Pl) (i : Nat) : Pl := fun j => if j = i then true else p j

section
variable {s : ByteArray} {c e : Int} {t : Bool}
set_option maxRecDepth 100000 in
set_option maxHeartbeats 4000000 in
theorem rNone_any (w : World) (hs : s.size ≤ 1000000) :
    Calls Tryz.prog 75 #[srV s c e t] w fun r w' => ∃ v, r = .returned v ∧ OwnBl w' w.heap.size v (s.size + 1) noP ∧ Ext w w' := by
  have hmk := fun W => made_bs (s.size + 1) (by omega) W
  simp only [Int.natCast_add, Int.cast_ofNat_Int] at hmk
  unfold srV
  go_enter Tryz.func75, Tryz.ntmps75
  go_wp2
  go_ret
  have ho := own_madeB (w.alloc (.cells #[.string s, .int .i64 c, .int .i64 e, .bool t] 35)) (s.size + 1) noP (by omega)
  rw [World.size_alloc] at ho
  exact ⟨_, rfl, Own1.mono ho (by omega), ((Ext.refl w).alloc _).alloc _⟩
def someBl (n : Nat) (p : Pl) : Bool := (List.range n).any p
theorem someBl_iff {n : Nat} {p : Pl} : someBl n p = true ↔ ∃ j, j < n ∧ p j = true := by
  unfold someBl
  rw [List.any_eq_true]
  constructor
  · rintro ⟨j, h1, h2⟩; exact ⟨j, List.mem_range.1 h1, h2⟩
  · rintro ⟨j, h1, h2⟩; exact ⟨j, List.mem_range.2 h1, h2⟩
set_option maxRecDepth 100000 in
set_option maxHeartbeats 4000000 in
theorem rsome_any (v : Value) (n : Nat) (p : Pl) (w : World) (h : RdBl w v n p) (hn : n ≤ 100000000) :
    Calls Tryz.prog 76 #[v] w fun r w' => r = .returned (.bool (someBl n p)) ∧ w = w' := by
  obtain ⟨A, cc, rfl, hc⟩ := h
  have HC := Lib.hid hc
  have HR : Hid (∀ b, (b = true ↔ ∃ j, j < n ∧ p j = true) → b = someBl n p) := Lib.hid (fun b hb => by rw [Bool.eq_iff_iff, hb, someBl_iff])
  generalize someBl n p = res at *
  clear hc
  go_enter Tryz.func76, Tryz.ntmps76
  go_upto_region 2 with fail
  go_loopw [3] (fun iv wr => ∃ k : Nat, k ≤ n ∧ iv = .int .i64 k ∧ w = wr ∧ Hid (∀ j, j < k → p j = false)) (fun iv _ => n - (intOf iv).toNat)
  case atStart => exact ⟨0, Nat.zero_le _, rfl, rfl, Lib.hid (fun j h => absurd h (Nat.not_lt_zero _))⟩
  case round =>
    obtain ⟨k, hk, rfl, rfl, HN⟩ := hrel
    by_cases hlt : k < n
    · have q9 : (k : Int) < (n : Int) := by omega
      obtain ⟨g, o, rfl, hcell⟩ := HC.out k hlt
      by_cases hp : p k = true
      · have FIN := Lib.hid (HR.out true ⟨fun _ => ⟨k, hlt, hp⟩, fun _ => rfl⟩)
        rw [hp] at hcell
        clear HR HN hp
        go_wp2
        go_ret
        exact ⟨by rw [← FIN.out]; rfl, rfl⟩
      · have hp' : p k = false := by simpa using hp
        have HN2 : Hid (∀ j, j < k + 1 → p j = false) := Lib.hid (fun j hj => by
          by_cases e : j = k
          · rw [e]; exact hp'
          · exact HN.out j (by omega))
        rw [hp'] at hcell
        clear HR HN hp hp'
        go_wp2
        go_roundw
        case rel => exact ⟨k + 1, hlt, by go_num, by simp, HN2⟩
        case measure => simp [intOf]; omega
    · have q9 : ¬ (k : Int) < (n : Int) := by omega
      have FIN := Lib.hid (HR.out false ⟨fun h => absurd h (by decide), fun ⟨j, h1, h2⟩ => by rw [HN.out j (by omega)] at h2; exact h2⟩)
      clear HR HN
      go_wp2
      go_ret
      exact ⟨by rw [← FIN.out]; rfl, rfl⟩
set_option maxRecDepth 100000 in
set_option maxHeartbeats 4000000 in
theorem rOnly_any (i : Nat) (w : World) (hs : s.size ≤ 1000000) (hi : i ≤ s.size) :
    Calls Tryz.prog 61 #[srV s c e t, .int .i64 i] w fun r w' => ∃ v, r = .returned v ∧ OwnBl w' w.heap.size v (s.size + 1) (oneP i) ∧ Ext w w' := by
  have HN := Lib.hid (fun W => rNone_any (s := s) (c := c) (e := e) (t := t) W hs)
  unfold srV at HN ⊢
  have hii : i < s.size + 1 := by omega
  clear hi
  have hn1 : 0 < s.size + 1 := by omega
  have hn2 : s.size + 1 ≤ 100000000 := by omega
  generalize hn : s.size + 1 = n at *
  clear hn hs
  go_enter Tryz.func61, Tryz.ntmps61
  go_upto_region 2 with (go_at_call 75; refine (HN.out _).mono ?_; rintro r w1 ⟨v, rfl, ho, hx⟩; obtain ⟨g, cc, cur, hv, hg, hb, hcc, hcell⟩ := own_bools ho hn1; subst hv)
  have hx1 := ((Ext.refl w).alloc (.cells #[.string s, .int .i64 c, .int .i64 e, .bool t] 35)).trans hx
  have HX := Lib.hid hx1
  have ci := hcell i hii
  have fi := hb.frozen i
  have HO := Lib.hid ho
  have hgw : w.heap.size ≤ g := by simp at hg; omega
  clear hcell hb ho hx hx1 hg
  go_wp2
  go_ret
  have hput := OwnBl.put (q := oneP i) HO.out i (fun k hk => by unfold oneP noP; exact decide_eq_false hk)
  rw [show oneP i i = true by unfold oneP; exact decide_eq_true rfl] at hput
  exact ⟨_, rfl, Own1.mono hput ((Ext.refl w).alloc _).size, HX.out.keep1 ((Keeps.refl (· = g) w1).setCell (p := ⟨g, i, none⟩) (.inr rfl) _) hgw⟩
end

/-- The first k of a, the others of b. -/
def mixBl (k : Nat) (a b : Pl) : Pl := fun i => if i < k then a i else b i
theorem mixBl_all (n : Nat) (a b : Pl) : bsC n (mixBl n a b) = bsC n a := bsC_congr fun j hj => by unfold mixBl; rw [if_pos hj]
theorem mixBl_zero (n : Nat) (a b : Pl) : bsC n (mixBl 0 a b) = bsC n b := bsC_congr fun j hj => by unfold mixBl; rw [if_neg (Nat.not_lt_zero _)]
theorem mixBl_succ {k j : Nat} {a b : Pl} (h : j ≠ k) : mixBl (k + 1) a b j = mixBl k a b j := by
  unfold mixBl
  by_cases h1 : j < k
  · rw [if_pos (by omega), if_pos h1]
  · rw [if_neg (by omega), if_neg h1]
theorem mixBl_at (k : Nat) (a b : Pl) : mixBl (k + 1) a b k = a k := by unfold mixBl; rw [if_pos (Nat.lt_succ_self k)]
set_option maxRecDepth 100000 in
set_option maxHeartbeats 8000000 in
theorem rboth_any (v u : Value) (n : Nat) (p q : Pl) (w : World) (h : RdBl w v n p) (hq : RdBl w u n q) (hn : n ≤ 100000000) (h0 : 0 < n) :
    Calls Tryz.prog 77 #[v, u] w fun r w' => ∃ x, r = .returned x ∧ OwnBl w' w.heap.size x n (orP p q) ∧ Ext w w' := by
  obtain ⟨A, ca, rfl, hca⟩ := h
  obtain ⟨D, cd, rfl, hcd⟩ := hq
  have HA := Lib.hid hca
  have HD := Lib.hid hcd
  have hmk := fun W => made_bs n hn W
  clear hca hcd
  go_enter Tryz.func77, Tryz.ntmps77
  go_upto_region 2 with fail
  have ho := own_madeB w n noP hn
  have hx1 : Ext w (w.alloc (.cells (bsC n noP).toArray 4)) := (Ext.refl w).alloc _
  generalize w.alloc (.cells (bsC n noP).toArray 4) = w1 at *
  have HX1 := Lib.hid hx1
  have HO := Lib.hid ho
  clear hmk hx1 ho
  generalize hfb : w.heap.size = fb at *
  have HFB := Lib.hid hfb
  clear hfb
  go_upto_region 3 with fail
  go_loopw [6] (fun iv wr => ∃ k : Nat, k ≤ n ∧ iv = .int .i64 k ∧ OwnBl wr fb (.slice (some ⟨fb, 0, none⟩) n n) n (mixBl k (orP p q) noP) ∧ Keeps (· = fb) w1 wr) (fun iv _ => n - (intOf iv).toNat)
  case atStart => exact ⟨0, Nat.zero_le _, rfl, by show Own1 _ _ _ _ (bsC n (mixBl 0 _ _)); rw [mixBl_zero]; exact HO.out, Keeps.refl _ _⟩
  case round =>
    obtain ⟨k, hk, rfl, ho, hK⟩ := hrel
    obtain ⟨w2, hw2⟩ : ∃ w, w = wr := ⟨_, rfl⟩
    subst hw2
    have hxx : Ext w w2 := HX1.out.keep1 hK (by have := HFB.out; omega)
    have HXX := Lib.hid hxx
    by_cases hlt : k < n
    · have q9 : (k : Int) < (n : Int) := by omega
      obtain ⟨ga, oa, rfl, c1⟩ := HA.out k hlt
      obtain ⟨gd, od, rfl, c2⟩ := HD.out k hlt
      replace c1 := hxx.cell c1
      replace c2 := hxx.cell c2
      obtain ⟨gf, cf, curf, hsf, _, hbf, _, hcf⟩ := own_bools ho h0
      injection hsf with e1 _ e3
      injection e1 with e1
      injection e1 with e1
      subst e1
      clear e3
      have c3 := hcf k hlt
      have f3 := hbf.frozen k
      have HOO := Lib.hid ho
      have HKK := Lib.hid hK
      have HV : Hid (orP p q k = (p k || q k)) := Lib.hid rfl
      have HE : Hid (mixBl (k + 1) (orP p q) noP k = orP p q k) := Lib.hid (mixBl_at _ _ _)
      clear ho hK hcf hbf hxx
      generalize p k = pk at *
      generalize q k = qk at *
      cases pk
      all_goals
        go_wp2
        go_roundw
        case rel =>
          have hput := OwnBl.put (q := mixBl (k + 1) (orP p q) noP) HOO.out k (fun j hj => mixBl_succ hj)
          rw [HE.out, HV.out] at hput
          exact ⟨k + 1, hlt, by go_num, by simpa using hput, by simpa using HKK.out.trans ((Keeps.refl (· = fb) w2).setCell (p := ⟨fb, k, none⟩) (.inr rfl) _) (fun _ _ h => h)⟩
        case measure => simp [intOf]; omega
    · have q9 : ¬ (k : Int) < (n : Int) := by omega
      obtain rfl : k = n := by omega
      have hf' : OwnBl w2 fb (.slice (some ⟨fb, 0, none⟩) k k) k (orP p q) := by
        show Own1 _ _ _ _ (bsC _ _)
        rw [← mixBl_all k (orP p q) noP]
        exact ho
      have HF' := Lib.hid hf'
      clear ho hK hf' hxx
      go_wp2
      go_ret
      exact ⟨_, rfl, by rw [HFB.out]; exact HF'.out, HXX.out⟩

set_option maxRecDepth 100000 in
set_option maxHeartbeats 8000000 in
theorem rwithout_any (v u : Value) (n : Nat) (p q : Pl) (w : World) (h : RdBl w v n p) (hq : RdBl w u n q) (hn : n ≤ 100000000) (h0 : 0 < n) :
    Calls Tryz.prog 86 #[v, u] w fun r w' => ∃ x, r = .returned x ∧ OwnBl w' w.heap.size x n (lessP p q) ∧ Ext w w' := by
  obtain ⟨A, ca, rfl, hca⟩ := h
  obtain ⟨D, cd, rfl, hcd⟩ := hq
  have HA := Lib.hid hca
  have HD := Lib.hid hcd
  have hmk := fun W => made_bs n hn W
  clear hca hcd
  go_enter Tryz.func86, Tryz.ntmps86
  go_upto_region 2 with fail
  have ho := own_madeB w n noP hn
  have hx1 : Ext w (w.alloc (.cells (bsC n noP).toArray 4)) := (Ext.refl w).alloc _
  generalize w.alloc (.cells (bsC n noP).toArray 4) = w1 at *
  have HX1 := Lib.hid hx1
  have HO := Lib.hid ho
  clear hmk hx1 ho
  generalize hfb : w.heap.size = fb at *
  have HFB := Lib.hid hfb
  clear hfb
  go_upto_region 3 with fail
  go_loopw [6] (fun iv wr => ∃ k : Nat, k ≤ n ∧ iv = .int .i64 k ∧ OwnBl wr fb (.slice (some ⟨fb, 0, none⟩) n n) n (mixBl k (lessP p q) noP) ∧ Keeps (· = fb) w1 wr) (fun iv _ => n - (intOf iv).toNat)
  case atStart => exact ⟨0, Nat.zero_le _, rfl, by show Own1 _ _ _ _ (bsC n (mixBl 0 _ _)); rw [mixBl_zero]; exact HO.out, Keeps.refl _ _⟩
  case round =>
    obtain ⟨k, hk, rfl, ho, hK⟩ := hrel
    obtain ⟨w2, hw2⟩ : ∃ w, w = wr := ⟨_, rfl⟩
    subst hw2
    have hxx : Ext w w2 := HX1.out.keep1 hK (by have := HFB.out; omega)
    have HXX := Lib.hid hxx
    by_cases hlt : k < n
    · have q9 : (k : Int) < (n : Int) := by omega
      obtain ⟨ga, oa, rfl, c1⟩ := HA.out k hlt
      obtain ⟨gd, od, rfl, c2⟩ := HD.out k hlt
      replace c1 := hxx.cell c1
      replace c2 := hxx.cell c2
      obtain ⟨gf, cf, curf, hsf, _, hbf, _, hcf⟩ := own_bools ho h0
      injection hsf with e1 _ e3
      injection e1 with e1
      injection e1 with e1
      subst e1
      clear e3
      have c3 := hcf k hlt
      have f3 := hbf.frozen k
      have HOO := Lib.hid ho
      have HKK := Lib.hid hK
      have HV : Hid (lessP p q k = (p k && !q k)) := Lib.hid rfl
      have HE : Hid (mixBl (k + 1) (lessP p q) noP k = lessP p q k) := Lib.hid (mixBl_at _ _ _)
      clear ho hK hcf hbf hxx
      generalize p k = pk at *
      generalize q k = qk at *
      cases pk
      all_goals
        go_wp2
        go_roundw
        case rel =>
          have hput := OwnBl.put (q := mixBl (k + 1) (lessP p q) noP) HOO.out k (fun j hj => mixBl_succ hj)
          rw [HE.out, HV.out] at hput
          exact ⟨k + 1, hlt, by go_num, by simpa using hput, by simpa using HKK.out.trans ((Keeps.refl (· = fb) w2).setCell (p := ⟨fb, k, none⟩) (.inr rfl) _) (fun _ _ h => h)⟩
        case measure => simp [intOf]; omega
    · have q9 : ¬ (k : Int) < (n : Int) := by omega
      obtain rfl : k = n := by omega
      have hf' : OwnBl w2 fb (.slice (some ⟨fb, 0, none⟩) k k) k (lessP p q) := by
        show Own1 _ _ _ _ (bsC _ _)
        rw [← mixBl_all k (lessP p q) noP]
        exact ho
      have HF' := Lib.hid hf'
      clear ho hK hf' hxx
      go_wp2
      go_ret
      exact ⟨_, rfl, by rw [HFB.out]; exact HF'.out, HXX.out⟩

end Go.Proofs.YtgfknlkpdiejgaaGreatDoor

namespace Go.Proofs.YtgfknlkpdiejgaaGreatDoor
open Go Go.RowKit

/-- What a leaf takes in the reference's scene. -/
def lfR (s : ByteArray) (c e : Int) (t : Bool) (h : Hd) (a b : Int) : Bool :=
  decide (0 ≤ a) && decide (b ≤ s.size) && (if h.kind = 3 then decide (a = b) && srB s c e t a
    else if h.kind = 4 then decide (a = b) && srE s c e t a
    else if h.kind = 2 then decide (a < s.size) && decide (b = a + 1) && h.set (srByte s t a).toNat
    else decide (a = b))
theorem lfR_ok (s : ByteArray) (c e : Int) (t : Bool) : LOk s.size (lfR s c e t) := fun h a b hL => by
  unfold lfR at hL
  simp only [Bool.and_eq_true, decide_eq_true_eq] at hL
  obtain ⟨⟨h1, h2⟩, h3⟩ := hL
  split at h3
  · simp only [Bool.and_eq_true, decide_eq_true_eq] at h3
    omega
  · split at h3
    · simp only [Bool.and_eq_true, decide_eq_true_eq] at h3
      omega
    · split at h3
      · simp only [Bool.and_eq_true, decide_eq_true_eq] at h3
        omega
      · simp only [decide_eq_true_eq] at h3
        omega
theorem lfM_lfR (s : ByteArray) (c e : Int) : lfM s (mkAt s c e s.size) = lfR s c e false := by
  funext h a b
  have h1 : (bits .and .i64 (sMark (mkAt s c e s.size) a) 1 != 0) = srB s c e false a := new_begin s c e a
  have h2 : (bits .and .i64 (sMark (mkAt s c e s.size) a) 2 != 0) = srE s c e false a := new_end s c e a
  unfold lfM lfR
  rw [h1, h2]
  by_cases ha : 0 ≤ a ∧ a < s.size
  · have e1 : (srByte s false a).toNat = (s.data.toList.getD a.toNat 0).toNat := by
      unfold srByte
      rw [if_pos ha]
      simp
    rw [e1]
  · by_cases h0 : 0 ≤ a
    · have e2 : decide (a < (s.size : Int)) = false := decide_eq_false (by omega)
      rw [e2]
      simp
    · rw [decide_eq_false h0]
      simp
def trnH (h : Hd) : Hd := { h with kind := if h.kind = 3 then 4 else if h.kind = 4 then 3 else h.kind }
mutual
def trnN : Nd → Nd
  | .mk h subs => .mk (trnH h) (if h.kind = 5 then (trnL subs).reverse else trnL subs)
def trnL : List Nd → List Nd
  | [] => []
  | n :: r => trnN n :: trnL r
end
theorem trnL_map : ∀ l : List Nd, trnL l = l.map trnN
  | [] => rfl
  | n :: r => by rw [trnL, trnL_map r, List.map_cons]
theorem trnL_len (l : List Nd) : (trnL l).length = l.length := by rw [trnL_map, List.length_map]
theorem lfR_turn (s : ByteArray) (c e : Int) (h : Hd) (a b : Int) : lfR s c e true (trnH h) a b = lfR s c e false h (s.size - b) (s.size - a) := by
  have hin : srIn s ((s.size : Int) - a) = srIn s a := by unfold srIn; rw [Bool.eq_iff_iff, decide_eq_true_eq, decide_eq_true_eq]; omega
  have hB : srE s c e true a = srB s c e false (s.size - a) := by
    unfold srE srB
    rw [hin]
    simp
  have hE : srB s c e true a = srE s c e false (s.size - a) := by
    unfold srE srB
    rw [hin]
    simp
  have e0 : (decide (0 ≤ a) && decide (b ≤ (s.size : Int))) = (decide (0 ≤ (s.size : Int) - b) && decide ((s.size : Int) - a ≤ s.size)) := by
    rw [Bool.eq_iff_iff]
    simp only [Bool.and_eq_true, decide_eq_true_eq]
    omega
  have e1 : decide (a = b) = decide ((s.size : Int) - b = s.size - a) := by rw [Bool.eq_iff_iff, decide_eq_true_eq, decide_eq_true_eq]; omega
  unfold lfR trnH
  simp only
  rw [e0]
  by_cases k3 : h.kind = 3
  · rw [if_pos k3, if_neg (by decide), if_pos rfl, if_pos k3, hB, e1]
    by_cases hab : a = b
    · subst hab; rfl
    · rw [decide_eq_false (by omega : ¬ ((s.size : Int) - b = s.size - a))]; rfl
  by_cases k4 : h.kind = 4
  · rw [if_neg k3, if_pos k4, if_pos rfl, if_neg k3, if_pos k4, hE, e1]
    by_cases hab : a = b
    · subst hab; rfl
    · rw [decide_eq_false (by omega : ¬ ((s.size : Int) - b = s.size - a))]; rfl
  rw [if_neg k3, if_neg k4, if_neg k3, if_neg k4, if_neg k3, if_neg k4, e1]
  by_cases k2 : h.kind = 2
  · rw [if_pos k2, if_pos k2]
    by_cases hc : 0 ≤ a ∧ a < s.size ∧ b = a + 1
    · obtain ⟨h1, h2, rfl⟩ := hc
      have eb : srByte s true a = srByte s false ((s.size : Int) - (a + 1)) := by
        unfold srByte
        have c1 : (0 : Int) ≤ (s.size : Int) - (a + 1) ∧ (s.size : Int) - (a + 1) < s.size := by omega
        have c2 : s.size - 1 - a.toNat = ((s.size : Int) - (a + 1)).toNat := by omega
        rw [if_pos ⟨h1, h2⟩, if_pos c1, c2]
        simp
      rw [eb, decide_eq_true h2, decide_eq_true (by omega : (s.size : Int) - (a + 1) < s.size), decide_eq_true rfl, decide_eq_true (by omega : (s.size : Int) - a = s.size - (a + 1) + 1)]
    · by_cases h0 : 0 ≤ a
      · have f1 : (decide (a < (s.size : Int)) && decide (b = a + 1)) = false := by
          rw [Bool.eq_false_iff]
          intro h
          simp only [Bool.and_eq_true, decide_eq_true_eq] at h
          exact hc ⟨h0, h⟩
        have f2 : ((decide (0 ≤ (s.size : Int) - b) && decide ((s.size : Int) - a ≤ s.size)) && (decide ((s.size : Int) - b < s.size) && decide ((s.size : Int) - a = s.size - b + 1))) = false := by
          rw [Bool.eq_false_iff]
          intro h
          simp only [Bool.and_eq_true, decide_eq_true_eq] at h
          exact hc ⟨h0, by omega, by omega⟩
        rw [f1, Bool.false_and, Bool.and_false, ← Bool.and_assoc, f2, Bool.false_and]
      · rw [decide_eq_false (by omega : ¬ ((s.size : Int) - a ≤ s.size))]
        simp
  · rw [if_neg k2, if_neg k2]
theorem tk_turn_pw {n : Int} {R R' : Rl} (h : ∀ a b, R' a b ↔ R (n - b) (n - a)) : ∀ k a b, pw R' k a b ↔ pw R k (n - b) (n - a)
  | 0, a, b => by
    show a = b ↔ n - b = n - a
    omega
  | k + 1, a, b => by
    rw [pw_snoc R k]
    constructor
    · rintro ⟨c, h1, h2⟩
      exact ⟨n - c, (tk_turn_pw h k c b).1 h2, (h a c).1 h1⟩
    · rintro ⟨c, h1, h2⟩
      refine ⟨n - c, (h a (n - c)).2 ?_, (tk_turn_pw h k (n - c) b).2 ?_⟩
      · rw [show n - (n - c) = c by omega]; exact h2
      · rw [show n - (n - c) = c by omega]; exact h1
theorem tkS_turn {n : Int} {L L' : Hd → Int → Int → Bool} : ∀ (l l' : List Nd), l'.length = l.length → (∀ i (h1 : i < l.length) (h2 : i < l'.length) a b, tkN L' l'[i] a b ↔ tkN L l[i] (n - b) (n - a)) → ∀ a b, tkS L' l'.reverse a b ↔ tkS L l (n - b) (n - a)
  | [], l', hl, _, a, b => by
    have e : l' = [] := List.eq_nil_of_length_eq_zero hl
    subst e
    rw [List.reverse_nil, tkS, tkS]
    omega
  | x :: r, [], hl, _, a, b => by simp at hl
  | x :: r, x' :: r', hl, h, a, b => by
    have h0 := h 0 (by simp) (by simp)
    have hr := tkS_turn (n := n) r r' (by simpa using hl) (fun i h1 h2 a b => h (i + 1) (by simpa using h1) (by simpa using h2) a b)
    simp only [List.getElem_cons_zero] at h0
    rw [List.reverse_cons, tkS_app, tkS]
    simp only [tkS_one]
    constructor
    · rintro ⟨d, h1, h2⟩
      exact ⟨n - d, (h0 d b).1 h2, (hr a d).1 h1⟩
    · rintro ⟨d, h1, h2⟩
      refine ⟨n - d, (hr a (n - d)).2 ?_, (h0 (n - d) b).2 ?_⟩
      · rw [show n - (n - d) = d by omega]; exact h2
      · rw [show n - (n - d) = d by omega]; exact h1
/-- The turned tree in the turned scene: read from behind. -/
theorem tk_turn (s : ByteArray) (c e : Int) : ∀ t : Nd, (t.h.kind = 7 ∨ t.h.kind = 8 → t.subs.length = 1) → formB t = true → ∀ a b, tkN (lfR s c e true) (trnN t) a b ↔ tkN (lfR s c e false) t (s.size - b) (s.size - a) := Nd.ind fun h subs ih _ hf a b => by
  have hcase := form_cases hf
  have hsub := form_sub hf
  have hone : ∀ t ∈ subs, (t.h.kind = 7 ∨ t.h.kind = 8 → t.subs.length = 1) := fun t ht hk => by
    have h1 := form_cases (h := t.h) (subs := t.subs) (by have := hsub t ht; cases t; exact this)
    omega
  have IH : ∀ t ∈ subs, ∀ a b, tkN (lfR s c e true) (trnN t) a b ↔ tkN (lfR s c e false) t (s.size - b) (s.size - a) := fun t ht => ih t ht (hone t ht) (hsub t ht)
  rw [trnN]
  by_cases k5 : h.kind = 5
  · rw [if_pos k5, tk_seq _ _ (by unfold trnH; simp only; rw [if_neg (by omega), if_neg (by omega)]; exact k5), tk_seq h subs k5]
    refine tkS_turn subs (trnL subs) (trnL_len subs) (fun i h1 h2 a b => ?_) a b
    have e : (trnL subs)[i] = trnN subs[i] := by simp only [trnL_map, List.getElem_map]
    rw [e]
    exact IH _ (List.getElem_mem h1) a b
  by_cases k6 : h.kind = 6
  · rw [if_neg k5, tk_alt _ _ (by unfold trnH; simp only; rw [if_neg (by omega), if_neg (by omega)]; exact k6), tk_alt h subs k6, tkA_iff, tkA_iff, trnL_map]
    constructor
    · rintro ⟨t', h1, h2⟩
      obtain ⟨t, h3, rfl⟩ := List.mem_map.1 h1
      exact ⟨t, h3, (IH t h3 a b).1 h2⟩
    · rintro ⟨t, h1, h2⟩
      exact ⟨trnN t, List.mem_map.2 ⟨t, h1, rfl⟩, (IH t h1 a b).2 h2⟩
  by_cases k7 : h.kind = 7
  · obtain ⟨t0, rfl⟩ := List.length_eq_one_iff.1 (show subs.length = 1 by omega)
    rw [if_neg k5, trnL, trnL, tk_group _ _ (by unfold trnH; simp only; rw [if_neg (by omega), if_neg (by omega)]; exact k7), tk_group h t0 k7]
    exact IH t0 (by simp) a b
  by_cases k8 : h.kind = 8
  · obtain ⟨t0, rfl⟩ := List.length_eq_one_iff.1 (show subs.length = 1 by omega)
    rw [if_neg k5, trnL, trnL, tk_rep _ _ (by unfold trnH; simp only; rw [if_neg (by omega), if_neg (by omega)]; exact k8), tk_rep h t0 k8]
    unfold rpR
    have hp := tk_turn_pw (n := s.size) (IH t0 (by simp))
    constructor
    · rintro ⟨k, h1, h2, h3⟩; exact ⟨k, h1, h2, (hp k a b).1 h3⟩
    · rintro ⟨k, h1, h2, h3⟩; exact ⟨k, h1, h2, (hp k a b).2 h3⟩
  · have hkk : ¬ (5 ≤ (trnH h).kind ∧ (trnH h).kind ≤ 8) := by
      unfold trnH
      simp only
      split
      · omega
      · split <;> omega
    rw [if_neg k5, leaf_img _ _ hkk, leaf_img h subs (by omega), lfR_turn]

end Go.Proofs.YtgfknlkpdiejgaaGreatDoor

namespace Go.Proofs.YtgfknlkpdiejgaaGreatDoor
open Go.RowKit

theorem word_rem (x k : Nat) (_h : x < 18446744073709551616) : (Int.tmod ((x : Int) / 2 ^ k) 2 == 1) = x.testBit k := by
  have e : ((x : Int) / 2 ^ k) = ((x / 2 ^ k : Nat) : Int) := by
    rw [Int.natCast_ediv, Int.natCast_pow]; rfl
  rw [e, Int.tmod_eq_emod_of_nonneg (Int.natCast_nonneg _), Nat.testBit_eq_decide_div_mod_eq, Bool.eq_iff_iff, beq_iff_eq, decide_eq_true_eq]
  generalize x / 2 ^ k = y
  omega

set_option maxHeartbeats 1000000 in
theorem rHas_any (p : Nat → Bool) (b : Nat) (w : World) (hb : b < 256) :
    Calls Tryz.prog 88 #[setV p, .int .u8 b] w fun r w' => r = .returned (.bool (p b)) ∧ Ext w w' := by
  unfold setV u64v
  have h3 : Int.tmod (b : Int) 64 = ((b % 64 : Nat) : Int) := by
    rw [Int.tmod_eq_emod_of_nonneg (by omega)]; omega
  have hB := fun i => word_rem (wd p i) (b % 64) (wd_lt p i)
  have hC : ∀ i, b / 64 = i → (wd p i).testBit (b % 64) = p b := fun i hi => by
    rw [wd_bit _ _ _ (by omega)]
    congr 1
    omega
  have HB := Lib.hid hB
  have HC := Lib.hid hC
  clear hB hC
  rcases (show b / 64 = 0 ∨ b / 64 = 1 ∨ b / 64 = 2 ∨ b / 64 = 3 from by omega) with h | h | h | h
  · have h1 : Int.tdiv (b : Int) 64 = 0 := by rw [Int.tdiv_eq_ediv_of_nonneg (by omega)]; omega
    have HCC := Lib.hid (HC.out _ h)
    clear h
    go_enter Tryz.func88, Tryz.ntmps88
    go_wp2
    go_ret
    exact ⟨ret_bool ((HB.out 0).trans HCC.out), (Ext.refl w).alloc _⟩
  · have h1 : Int.tdiv (b : Int) 64 = 1 := by rw [Int.tdiv_eq_ediv_of_nonneg (by omega)]; omega
    have HCC := Lib.hid (HC.out _ h)
    clear h
    go_enter Tryz.func88, Tryz.ntmps88
    go_wp2
    go_ret
    exact ⟨ret_bool ((HB.out 1).trans HCC.out), (Ext.refl w).alloc _⟩
  · have h1 : Int.tdiv (b : Int) 64 = 2 := by rw [Int.tdiv_eq_ediv_of_nonneg (by omega)]; omega
    have HCC := Lib.hid (HC.out _ h)
    clear h
    go_enter Tryz.func88, Tryz.ntmps88
    go_wp2
    go_ret
    exact ⟨ret_bool ((HB.out 2).trans HCC.out), (Ext.refl w).alloc _⟩
  · have h1 : Int.tdiv (b : Int) 64 = 3 := by rw [Int.tdiv_eq_ediv_of_nonneg (by omega)]; omega
    have HCC := Lib.hid (HC.out _ h)
    clear h
    go_enter Tryz.func88, Tryz.ntmps88
    go_wp2
    go_ret
    exact ⟨ret_bool ((HB.out 3).trans HCC.out), (Ext.refl w).alloc _⟩

end Go.Proofs.YtgfknlkpdiejgaaGreatDoor

namespace Go.Proofs.YtgfknlkpdiejgaaGreatDoor
open Go Go.RowKit

/-- To which place a leaf leads; -1: none. -/
def lfK (s : ByteArray) (c e : Int) (t : Bool) (h : Hd) (i : Nat) : Int :=
  if h.kind = 1 then i else if h.kind = 2 then (if i < s.size ∧ h.set (srByte s t i).toNat = true then (i : Int) + 1 else -1)
    else if h.kind = 3 then (if srB s c e t i = true then (i : Int) else -1) else if srE s c e t i = true then (i : Int) else -1
theorem lfK_iff {s : ByteArray} {c e : Int} {t : Bool} {h : Hd} {i : Nat} (hi : i ≤ s.size) (hk : 1 ≤ h.kind ∧ h.kind ≤ 4) (b : Int) : lfR s c e t h i b = true ↔ lfK s c e t h i = b ∧ 0 ≤ b := by
  unfold lfR lfK
  rw [decide_eq_true (by omega : (0 : Int) ≤ i), Bool.true_and]
  by_cases k1 : h.kind = 1
  · rw [if_pos k1, if_neg (by omega), if_neg (by omega), if_neg (by omega)]
    simp only [Bool.and_eq_true, decide_eq_true_eq]
    omega
  rw [if_neg k1]
  by_cases k2 : h.kind = 2
  · rw [if_pos k2, if_neg (by omega), if_neg (by omega), if_pos k2]
    simp only [Bool.and_eq_true, decide_eq_true_eq]
    split
    · rename_i hc
      constructor
      · rintro ⟨h1, ⟨h2, h3⟩, h4⟩; omega
      · rintro ⟨h1, h2⟩; exact ⟨by omega, ⟨by omega, by omega⟩, hc.2⟩
    · rename_i hc
      constructor
      · rintro ⟨h1, ⟨h2, h3⟩, h4⟩; exact absurd ⟨by omega, h4⟩ hc
      · rintro ⟨h1, h2⟩; omega
  simp only [if_neg k2]
  by_cases k3 : h.kind = 3
  · rw [if_pos k3, if_pos k3]
    simp only [Bool.and_eq_true, decide_eq_true_eq]
    split
    · rename_i hc
      constructor
      · rintro ⟨h1, h2, h3⟩; omega
      · rintro ⟨h1, h2⟩; exact ⟨by omega, h1, hc⟩
    · rename_i hc
      constructor
      · rintro ⟨h1, h2, h3⟩; exact absurd h3 hc
      · rintro ⟨h1, h2⟩; omega
  · have k4 : h.kind = 4 := by omega
    rw [if_neg k3, if_pos k4, if_neg k3]
    simp only [Bool.and_eq_true, decide_eq_true_eq]
    split
    · rename_i hc
      constructor
      · rintro ⟨h1, h2, h3⟩; omega
      · rintro ⟨h1, h2⟩; exact ⟨by omega, h1, hc⟩
    · rename_i hc
      constructor
      · rintro ⟨h1, h2, h3⟩; exact absurd h3 hc
      · rintro ⟨h1, h2⟩; omega

set_option maxRecDepth 100000 in
set_option maxHeartbeats 8000000 in
theorem rleaf_any {s : ByteArray} {c e : Int} {t : Bool} (h : Hd) (sv : Value) (i : Nat) (w : World) (hs : s.size ≤ 1000000) (hi : i ≤ s.size) (hk : 1 ≤ h.kind ∧ h.kind ≤ 4) :
    Calls Tryz.prog 79 #[nodeV h sv, srV s c e t, .int .i64 i] w fun r w' => r = .returned (.int .i64 (lfK s c e t h i)) ∧ Ext w w' := by
  have HB := Lib.hid (fun W => rByte_any s c e t i W hs)
  have HG := Lib.hid (fun W => rBegin_any s c e t i W hs)
  have HE := Lib.hid (fun W => rEnd_any s c e t i W hs)
  have HH := Lib.hid (fun (b : Nat) (hb : b < 256) W => rHas_any h.set b W hb)
  have HR : Hid (lfK s c e t h i = if h.kind = 1 then (i : Int) else if h.kind = 2 then (if i < s.size ∧ h.set (srByte s t i).toNat = true then (i : Int) + 1 else -1) else if h.kind = 3 then (if srB s c e t i = true then (i : Int) else -1) else if srE s c e t i = true then (i : Int) else -1) := Lib.hid rfl
  have HBY : Hid ((i < s.size ∧ ∃ b : Nat, b < 256 ∧ srByte s t i = (b : Int)) ∨ (¬ i < s.size ∧ srByte s t i = -1)) := Lib.hid (by
    unfold srByte
    by_cases hi : i < s.size
    · left
      refine ⟨hi, ?_⟩
      rw [if_pos (by omega)]
      split
      · exact ⟨_, UInt8.toNat_lt _, rfl⟩
      · exact ⟨_, UInt8.toNat_lt _, rfl⟩
    · right
      exact ⟨hi, by rw [if_neg (by omega)]⟩)
  have hi7 : i ≤ 1000000 := by omega
  clear hi
  unfold srV at HB HG HE ⊢
  unfold setV u64v at HH
  generalize lfK s c e t h i = res at *
  generalize srByte s t i = by_ at *
  generalize srB s c e t i = bb at *
  generalize srE s c e t i = be at *
  go_enter Tryz.func79, Tryz.ntmps79
  go_upto_region 1 with (refine wpl_boxNd rfl _ rfl h _ rfl ?_; intro z w1 hb hx1 ez sz)
  have hV := Blk.new w1 35 #[.string s, .int .i64 c, .int .i64 e, .bool t]
  have hx2 := hx1.alloc (.cells #[.string s, .int .i64 c, .int .i64 e, .bool t] 35)
  replace hb := hb.ext ((Ext.refl w1).alloc (.cells #[.string s, .int .i64 c, .int .i64 e, .bool t] 35))
  generalize w1.alloc (.cells #[.string s, .int .i64 c, .int .i64 e, .bool t] 35) = w2 at *
  generalize w1.heap.size = u at *
  have HX := Lib.hid hx2
  have k0 : w2.cell? ⟨z, 0, none⟩ = some (.int .i64 h.kind) := hb.cell 0
  have k1 : w2.cell? ⟨z, 1, none⟩ = some (.int .u64 (wd h.set 0 : Int)) := hb.cell 1
  have k2 : w2.cell? ⟨z, 2, none⟩ = some (.int .u64 (wd h.set 1 : Int)) := hb.cell 2
  have k3 : w2.cell? ⟨z, 3, none⟩ = some (.int .u64 (wd h.set 2 : Int)) := hb.cell 3
  have k4 : w2.cell? ⟨z, 4, none⟩ = some (.int .u64 (wd h.set 3 : Int)) := hb.cell 4
  have v0 : w2.cell? ⟨u, 0, none⟩ = some (.string s) := hV.cell 0
  have v1 : w2.cell? ⟨u, 1, none⟩ = some (.int .i64 c) := hV.cell 1
  have v2 : w2.cell? ⟨u, 2, none⟩ = some (.int .i64 e) := hV.cell 2
  have v3 : w2.cell? ⟨u, 3, none⟩ = some (.bool t) := hV.cell 3
  clear hb hV hx1 ez sz hx2
  obtain ⟨kd, hkd⟩ : ∃ kd, kd = h.kind := ⟨_, rfl⟩
  rw [← hkd] at k0 HR hk
  have hkk : kd = 1 ∨ kd = 2 ∨ kd = 3 ∨ kd = 4 := by omega
  clear hkd hk
  generalize wd h.set 0 = w_0 at *
  generalize wd h.set 1 = w_1 at *
  generalize wd h.set 2 = w_2 at *
  generalize wd h.set 3 = w_3 at *
  generalize h.set = st at *
  rcases hkk with rfl | rfl | rfl | rfl
  · have FIN : Hid (res = (i : Int)) := Lib.hid (by rw [HR.out, if_pos rfl])
    clear HR HBY HB HG HE HH
    go_wp2
    go_ret
    exact ⟨by rw [FIN.out]; rfl, HX.out⟩
  · have HR2 : Hid (res = if i < s.size ∧ st by_.toNat = true then (i : Int) + 1 else -1) := Lib.hid (by rw [HR.out, if_neg (by decide), if_pos rfl])
    clear HR HG HE
    rcases HBY.out with ⟨hi, b, hb, rfl⟩ | ⟨hi, rfl⟩
    · have HR3 : Hid (res = if st b = true then (i : Int) + 1 else -1) := Lib.hid (by rw [HR2.out, Int.toNat_natCast]; simp only [hi, true_and])
      have q1 : IntKind.u8.wrap (b : Int) = (b : Int) := by rw [IntKind.wrap_u8]; omega
      have q2 : (0 : Int) ≤ (b : Int) := by omega
      have HH2 := Lib.hid (HH.out b hb)
      clear HR2 HBY HH hb hi
      generalize st b = sb at *
      cases sb
      · have FIN : Hid (res = -1) := Lib.hid (by rw [HR3.out]; rfl)
        clear HR3
        go_wp2_with (first
          | (go_at_call 87; refine (HB.out _).mono ?_; rintro e w3 ⟨rfl, hx3⟩; replace k1 := hx3.cell k1; replace k2 := hx3.cell k2; replace k3 := hx3.cell k3; replace k4 := hx3.cell k4; replace k0 := hx3.cell k0)
          | (go_at_call 88; refine (HH2.out _).mono ?_; rintro e w4 ⟨rfl, hx4⟩; replace k0 := hx4.cell k0))
        go_ret
        exact ⟨by rw [FIN.out]; rfl, (HX.out.trans hx3).trans hx4⟩
      · have FIN : Hid (res = (i : Int) + 1) := Lib.hid (by rw [HR3.out]; rfl)
        have q3 : IntKind.i64.wrap ((i : Int) + 1) = (i : Int) + 1 := by rw [IntKind.wrap_i64]; omega
        clear HR3
        go_wp2_with (first
          | (go_at_call 87; refine (HB.out _).mono ?_; rintro e w3 ⟨rfl, hx3⟩; replace k1 := hx3.cell k1; replace k2 := hx3.cell k2; replace k3 := hx3.cell k3; replace k4 := hx3.cell k4; replace k0 := hx3.cell k0)
          | (go_at_call 88; refine (HH2.out _).mono ?_; rintro e w4 ⟨rfl, hx4⟩; replace k0 := hx4.cell k0))
        go_ret
        exact ⟨by rw [FIN.out]; rfl, (HX.out.trans hx3).trans hx4⟩
    · have FIN : Hid (res = -1) := Lib.hid (by rw [HR2.out, if_neg (fun h => hi h.1)])
      clear HR2 HBY HH hi
      go_wp2_with (go_at_call 87; refine (HB.out _).mono ?_; rintro e w3 ⟨rfl, hx3⟩; replace k0 := hx3.cell k0)
      go_ret
      exact ⟨by rw [FIN.out]; rfl, HX.out.trans hx3⟩
  · have HR2 : Hid (res = if bb = true then (i : Int) else -1) := Lib.hid (by rw [HR.out, if_neg (by decide), if_neg (by decide), if_pos rfl])
    clear HR HBY HB HE HH
    cases bb
    all_goals
      have FIN := Lib.hid (HR2.out)
      simp only [if_true, Bool.false_eq_true, if_false] at FIN
      clear HR2
      go_wp2_with (go_at_call 89; refine (HG.out _).mono ?_; rintro e w3 ⟨rfl, hx3⟩; replace k0 := hx3.cell k0)
      go_ret
      exact ⟨by rw [FIN.out]; rfl, HX.out.trans hx3⟩
  · have HR2 : Hid (res = if be = true then (i : Int) else -1) := Lib.hid (by rw [HR.out, if_neg (by decide), if_neg (by decide), if_neg (by decide)])
    clear HR HBY HB HG HH
    cases be
    all_goals
      have FIN := Lib.hid (HR2.out)
      simp only [if_true, Bool.false_eq_true, if_false] at FIN
      clear HR2
      go_wp2_with (go_at_call 90; refine (HE.out _).mono ?_; rintro e w3 ⟨rfl, hx3⟩; replace k0 := hx3.cell k0)
      go_ret
      exact ⟨by rw [FIN.out]; rfl, HX.out.trans hx3⟩

end Go.Proofs.YtgfknlkpdiejgaaGreatDoor
