/- Laws of seeking: SeekShifts and SeekTells return true and leave a world that extends the one they got. For every text. -/
import Derived.Test.YtceolkbekmlhdaaSeek
namespace Go.Proofs.Ytceolkbekmlhdaa
open Go.RowKit

theorem shifts_new (t : ByteArray) (w : World) (ht : t.size ≤ 1000000) (h1 : 1 ≤ t.size) :
    Calls Try.prog 18 #[.string t] w fun r w' => ∃ g, r = .returned (.slice (some ⟨g, 0, none⟩) 256 256) ∧ w.heap.size ≤ g ∧ Blk w' g 3 (i64s (shTab (by_ t) (t.size - 1))) ∧ Ext w w' :=
  (shifts_any t w ht).mono fun _ _ ⟨h, hx⟩ => by
    rcases h with ⟨h0, _⟩ | ⟨_, g, hr, hg, hb⟩
    · omega
    · exact ⟨g, hr, hg, hb, hx⟩

theorem shifts_nil (t : ByteArray) (w : World) (h0 : t.size = 0) :
    Calls Try.prog 18 #[.string t] w fun r w' => r = .returned (.slice none 0 0) ∧ Ext w w' :=
  (shifts_any t w (by omega)).mono fun _ _ ⟨h, hx⟩ => by
    rcases h with ⟨_, hr⟩ | ⟨h1, _⟩
    · exact ⟨hr, hx⟩
    · omega

set_option maxRecDepth 100000 in
set_option maxHeartbeats 1000000 in
theorem seekLives_any (w : World) : Calls Try.prog 17 #[] w fun r w' => r = .returned (.bool true) ∧ Ext w w' := by
  have e1 : idx ⟨#[120, 97, 98, 97, 98]⟩ ⟨#[97, 98]⟩ 2 = 3 := by decide +kernel
  have e2 : cnt ⟨#[97, 97, 97, 97]⟩ ⟨#[97, 97]⟩ = 2 := by decide +kernel
  have e3 : (shTab (by_ ⟨#[97, 97, 98]⟩) 2).getD 97 0 = 1 := by decide +kernel
  have e4 : (shTab (by_ ⟨#[97, 97, 98]⟩) 2).getD 98 0 = 3 := by decide +kernel
  have hS := fun W => shifts_new ⟨#[97, 97, 98]⟩ W (by decide) (by decide)
  have hsz : (⟨#[97, 97, 98]⟩ : ByteArray).size - 1 = 2 := rfl
  rw [hsz] at hS
  have hI := fun W => index_any ⟨#[120, 97, 98, 97, 98]⟩ ⟨#[97, 98]⟩ 2 W (by decide) (by decide)
  have hC := fun W => count_any ⟨#[97, 97, 97, 97]⟩ ⟨#[97, 97]⟩ W (by decide) (by decide)
  rw [e1] at hI
  rw [e2] at hC
  have hl : (shTab (by_ ⟨#[97, 97, 98]⟩) 2).length = 256 := shTab_len _ _
  generalize shTab (by_ ⟨#[97, 97, 98]⟩) 2 = l at *
  have HS := Lib.hid hS
  have HI := Lib.hid hI
  have HC := Lib.hid hC
  have c1 : ∀ (W : World) (g : Nat), Blk W g 3 (i64s l) → W.cell? ⟨g, 97, none⟩ = some (.int .i64 1) := fun W g h => by rw [h.cell, i64s_get _ _ (by rw [hl]; decide), e3]
  have c2 : ∀ (W : World) (g : Nat), Blk W g 3 (i64s l) → W.cell? ⟨g, 98, none⟩ = some (.int .i64 3) := fun W g h => by rw [h.cell, i64s_get _ _ (by rw [hl]; decide), e4]
  have C1 := Lib.hid c1
  have C2 := Lib.hid c2
  clear hS hI hC e1 e2 e3 e4 hl hsz c1 c2
  go_enter Try.func17, Try.ntmps17
  go_wp2_with (first
    | (go_at_call 18; refine (HS.out _).mono ?_; rintro e w1 ⟨g, rfl, hg, hb, hx1⟩)
    | (go_at_call 23; refine (HI.out _).mono ?_; rintro e w2 ⟨rfl, hx2⟩)
    | (go_at_call 25; refine (HC.out _).mono ?_; rintro e w3 ⟨rfl, hx3⟩; have k1 := C1.out _ _ ((hb.ext hx2).ext hx3); have k2 := C2.out _ _ ((hb.ext hx2).ext hx3)))
  go_ret
  exact ⟨rfl, (hx1.trans hx2).trans hx3⟩

theorem rdI_tab {w : World} {g : Nat} {t : List UInt8} {k : Nat} (h : Blk w g 3 (i64s (shTab t k))) : RdI w (.slice (some ⟨g, 0, none⟩) 256 256) (shTab t k) := by
  have := RdI.of_blk (c := 256) h
  rwa [shTab_len] at this
theorem same_true (va vb : Value) (l : List Int) (w : World) (hm : l.length ≤ 1000000000000) (ha : RdI w va l) (hb : RdI w vb l) :
    Calls Try.prog 20 #[va, vb] w fun e w' => e = .returned (.bool true) ∧ Ext w w' := by
  have := sameInts_any va vb l l w hm ha hb
  rwa [decide_eq_true (rfl : l = l)] at this
theorem cell_some {w : World} {g : Nat} {t : TypeId} {cs : Array Value} (h : Blk w g t cs) (k : Nat) (hk : k < cs.size) : ∃ v, w.cell? ⟨g, k, none⟩ = some v := ⟨_, by rw [h.cell]; exact Array.getElem?_eq_getElem hk⟩

set_option maxRecDepth 100000 in
set_option maxHeartbeats 4000000 in
theorem seekShifts_walk (t : ByteArray) (_w0 : t.size ≤ maxLen) (w : World) :
    Calls Try.prog 6 #[.string t] w fun r w' => r = .returned (.bool true) ∧ Ext w w' := by
  by_cases hs : t.size ≤ 5000
  · have hsb : ¬ (5000 < (t.size : Int)) := by omega
    have HR := Lib.hid (fun W => rShifts_any t W (by omega))
    by_cases h0 : t.size = 0
    · have hl : shL t = [] := by unfold shL; rw [if_pos h0]
      rw [hl] at HR
      have HS := Lib.hid (fun W => shifts_nil t W h0)
      clear hl h0
      have hn : ∀ W, RdI W (.slice none 0 0) [] := fun W => ⟨none, 0, rfl, fun j hj => by simp at hj⟩
      have HN := Lib.hid hn
      clear hn
      go_enter Try.func6, Try.ntmps6
      go_wp2_with (first
        | (go_at_call 17; refine (seekLives_any _).mono ?_; rintro e w1 ⟨rfl, hx1⟩)
        | (go_at_call 18; refine (HS.out _).mono ?_; rintro e w3 ⟨rfl, hx3⟩; have hy3 : Ext w w3 := Ext.trans (by assumption) hx3; clear hx3)
        | (go_at_call 19; refine (HR.out _).mono ?_; rintro e w4 ⟨⟨v, rfl, hv⟩, hx4⟩; have hr := RdI.of_own (l := []) hv; clear hv)
        | (go_at_call 20; refine (same_true _ _ [] _ (by simp) (HN.out _) hr).mono ?_; rintro e w5 ⟨rfl, hx5⟩))
      refine wp_loop_rounds 1 ?_
      rw [rounds_succ]
      have hr2 := hr.ext hx5
      clear hr
      go_wp2_with (go_at_call 20; refine (same_true _ _ [] _ (by simp) (HN.out _) hr2).mono ?_; rintro e w6 ⟨rfl, hx6⟩)
      go_ret
      exact ⟨rfl, ((hy3.trans hx4).trans hx5).trans hx6⟩
    · have htp : 1 ≤ t.size := by omega
      have hl : shL t = shTab (by_ t) (t.size - 1) := by unfold shL; rw [if_neg h0]
      rw [hl] at HR
      have HS := Lib.hid (fun W => shifts_new t W (by omega) htp)
      clear hl h0
      have hlen : (shTab (by_ t) (t.size - 1)).length ≤ 1000000000000 := by rw [shTab_len]; decide
      have hsz : (i64s (shTab (by_ t) (t.size - 1))).size = 256 := by rw [i64s_size, shTab_len]
      have HRD := Lib.hid (fun W g h => rdI_tab (w := W) (g := g) (t := by_ t) (k := t.size - 1) h)
      generalize shTab (by_ t) (t.size - 1) = l at *
      have HSZ := Lib.hid hsz; clear hsz
      go_enter Try.func6, Try.ntmps6
      go_wp2_with (go_at_call 17; refine (seekLives_any _).mono ?_; rintro e w1 ⟨rfl, hx1⟩)
      refine (HS.out _).mono ?_
      rintro e w2 ⟨ga, rfl, hga, hba, hx2⟩
      go_wp2_with fail
      refine (HS.out _).mono ?_
      rintro e w3 ⟨gb, rfl, hgb, hbb, hx3⟩
      have hne : ga < gb := Nat.lt_of_lt_of_le hba.lt hgb
      have hba3 := hba.ext hx3
      have hx13 := (hx1.trans hx2).trans hx3
      have hwa : w.heap.size ≤ ga := Nat.le_trans hx1.size hga
      clear hba hx1 hx2 hx3
      go_wp2_with (first
        | (go_at_call 19; refine (HR.out _).mono ?_; rintro e w4 ⟨⟨v, rfl, hv⟩, hx4⟩)
        | (go_at_call 20; refine (same_true _ _ l _ hlen (HRD.out _ _ (hba3.ext hx4)) (RdI.of_own hv)).mono ?_; rintro e w5 ⟨rfl, hx5⟩))
      have hlt3 := hba3.lt
      have ha5 := (hba3.ext hx4).ext hx5
      have hb5 := (hbb.ext hx4).ext hx5
      have hv5 := hv.ext hx5
      have hx15 := (hx13.trans hx4).trans hx5
      clear hba3 hbb hv hx4 hx5 hx13 HR HS
      go_loopw [24] (fun i wr => ∃ k : Nat, k ≤ 256 ∧ i = .int .i64 k ∧ (∃ cs : Array Value, cs.size = 256 ∧ Blk wr ga 3 cs) ∧ Blk wr gb 3 (i64s l) ∧ Own1 wr w3.heap.size 3 v (cI l) ∧ Ext w wr) (fun i _ => 256 - (intOf i).toNat)
      case atStart => exact ⟨0, Nat.zero_le _, rfl, ⟨_, HSZ.out, ha5⟩, hb5, hv5, hx15⟩
      case round =>
        clear ha5 hb5 hv5 hx15
        obtain ⟨k, hk, rfl, ⟨cs, hcs, ha⟩, hb, hv, hx⟩ := hrel
        by_cases hlt : k < 256
        · obtain ⟨y, c2⟩ := cell_some ha k (by omega)
          have f2 := ha.frozen k
          have HCS := Lib.hid hcs; clear hcs
          go_wp2
          go_roundw
          case rel =>
            exact ⟨k + 1, hlt, by go_num, ⟨_, by rw [Array.size_setIfInBounds]; exact HCS.out, ha.set _ _⟩, hb.far (show gb ≠ ga from by omega) _, hv.far (by exact hlt3) _, hx.setCell (by exact hwa) _⟩
          case measure => simp [intOf]; omega
        · have HCS := Lib.hid hcs; clear hcs
          go_wp2_with (go_at_call 20; refine (same_true _ _ l _ hlen (HRD.out _ _ hb) (RdI.of_own hv)).mono ?_; rintro e w6 ⟨rfl, hx6⟩)
          go_ret
          exact ⟨rfl, hx.trans hx6⟩
  · have hsb : 5000 < (t.size : Int) := by omega
    go_enter Try.func6, Try.ntmps6
    go_wp2_with (go_at_call 17; refine (seekLives_any _).mono ?_; rintro e w1 ⟨rfl, hx1⟩)
    go_ret
    exact ⟨rfl, hx1⟩

theorem own_block {w : World} {B : Nat} {e : TypeId} {A : Option Addr} {n c : Nat} {l : List Int} (h : Own1 w B e (.slice A n c) (cI l)) (h0 : 0 < l.length) : ∃ g, A = some ⟨g, 0, none⟩ ∧ B ≤ g ∧ g < w.heap.size := by
  obtain ⟨g, cap, cur, hv, hg, hbl, _⟩ := Own1.blk h (by simpa using h0)
  simp only [Value.slice.injEq] at hv
  exact ⟨g, hv.1, hg, hbl.lt⟩

set_option maxRecDepth 100000 in
set_option maxHeartbeats 4000000 in
theorem seekTells_walk (s t : ByteArray) (i : Int) (_w0 : s.size ≤ maxLen) (_w1 : t.size ≤ maxLen) (_w2 : (Lit.int .i64 i).wf = true) (w : World) :
    Calls Try.prog 7 #[.string s, .string t, .int .i64 i] w fun r w' => r = .returned (.bool true) ∧ Ext w w' := by
  by_cases hs : s.size ≤ 20000
  · have hsb : decide ((20000 : Int) < (s.size : Int)) = false := by simp; omega
    by_cases ht : t.size ≤ 20000
    · have htb : decide ((20000 : Int) < (t.size : Int)) = false := by simp; omega
      have hp1 : (s.size : Int) * (t.size : Int) ≤ 400000000 := by
        have : s.size * t.size ≤ 20000 * 20000 := Nat.mul_le_mul hs ht
        have h2 : ((s.size * t.size : Nat) : Int) ≤ 400000000 := by omega
        rwa [Int.natCast_mul] at h2
      have hp0 : 0 ≤ (s.size : Int) * (t.size : Int) := Int.mul_nonneg (by omega) (by omega)
      by_cases hm : (s.size : Int) * (t.size : Int) ≤ 4000000
      · have hmb : decide ((4000000 : Int) < (s.size : Int) * (t.size : Int)) = false := by simpa using hm
        have HA := Lib.hid (fun W => all_any s t W (by omega) (by omega))
        have HRA := Lib.hid (fun W => rAll_any s t W (by omega) (by omega))
        have HI := Lib.hid (fun W => index_any s t i W (by omega) (by omega))
        have HRI := Lib.hid (fun W => rIndex_any s t i W (by omega) (by omega))
        have HC := Lib.hid (fun W => count_any s t W (by omega) (by omega))
        have HRC := Lib.hid (fun W => rCount_any s t W (by omega) (by omega))
        have hlen : (nI (allL (by_ s) (by_ t) (s.size + 1))).length ≤ 1000000000000 := by rw [nI_len]; have := allL_len (by_ s) (by_ t) (s.size + 1); omega
        generalize nI (allL (by_ s) (by_ t) (s.size + 1)) = l at *
        generalize idx s t i = ix at *
        generalize (cnt s t : Int) = ct at *
        go_enter Try.func7, Try.ntmps7
        go_wp2_with (go_at_call 17; refine (seekLives_any _).mono ?_; rintro e w1 ⟨rfl, hx1⟩)
        refine (HA.out _).mono ?_
        rintro e w2 ⟨⟨va, rfl, hva⟩, hx2⟩
        obtain ⟨A, ca, rfl, hrd⟩ := RdI.of_own hva
        clear hrd
        have HG := Lib.hid (own_block hva)
        go_wp2_with fail
        refine (HA.out _).mono ?_
        rintro e w3 ⟨⟨vb, rfl, hvb⟩, hx3⟩
        have hva3 := hva.ext hx3
        have hx13 := (hx1.trans hx2).trans hx3
        have hs1 := hx1.size
        have hs2 := hx2.size
        have hs3 := hx3.size
        clear hva hx2 hx3
        have hx0 := hx1
        clear hx1
        go_wp2_with fail
        refine (HRA.out _).mono ?_
        rintro e w4 ⟨⟨vw, rfl, hvw⟩, hx4⟩
        go_wp2_with (first
          | (go_at_call 23; refine (HI.out _).mono ?_; rintro e w5 ⟨rfl, hx5⟩)
          | (go_at_call 24; refine (HRI.out _).mono ?_; rintro e w6 ⟨rfl, rfl⟩)
          | (go_at_call 25; refine (HC.out _).mono ?_; rintro e w7 ⟨rfl, hx7⟩)
          | (go_at_call 26; refine (HRC.out _).mono ?_; rintro e w8 ⟨rfl, rfl⟩)
          | (go_at_call 20; refine (same_true _ _ l _ hlen (RdI.of_own (((hva3.ext hx4).ext hx5).ext hx7)) (RdI.of_own ((hvw.ext hx5).ext hx7))).mono ?_; rintro e w9 ⟨rfl, hx9⟩))
        have hx79 := (((hx4.trans hx5).trans hx7).trans hx9)
        have ha9 := hva3.ext hx79
        have hb9 := hvb.ext hx79
        have hv9 := (((hvw.ext hx5).ext hx7).ext hx9)
        have hx19 := hx13.trans hx79
        have hs4 := hx4.size
        clear hva3 hvb hvw hx4 hx5 hx7 hx9 hx79 hx13 HA HRA HI HRI HC HRC
        go_loopw [64] (fun i wr => ∃ k : Nat, k ≤ l.length ∧ i = .int .i64 k ∧ Hid (0 < l.length → ∃ (g : Nat) (cs : Array Value), A = some ⟨g, 0, none⟩ ∧ w1.heap.size ≤ g ∧ g < w2.heap.size ∧ Blk wr g 3 cs ∧ l.length ≤ cs.size) ∧ Own1 wr w2.heap.size 3 vb (cI l) ∧ Own1 wr w3.heap.size 3 vw (cI l) ∧ Ext w wr) (fun i _ => l.length - (intOf i).toNat)
        case atStart =>
          refine ⟨0, Nat.zero_le _, rfl, Lib.hid (fun h0 => ?_), hb9, hv9, hx19⟩
          obtain ⟨g, hA, hg1, hg2⟩ := HG.out h0
          obtain ⟨g', cap, cur, hv, _, hbl, hsz⟩ := Own1.blk ha9 (by simpa using h0)
          rw [hA] at hv
          simp only [Value.slice.injEq, Option.some.injEq, Addr.mk.injEq] at hv
          obtain ⟨⟨rfl, _⟩, _⟩ := hv
          exact ⟨g, cur, hA, hg1, hg2, hbl, by simpa using hsz⟩
        case round =>
          clear ha9 hb9 hv9 hx19
          obtain ⟨k, hk, rfl, ha, hb, hv, hx⟩ := hrel
          by_cases hlt : k < l.length
          · obtain ⟨g, cs, rfl, hg1, hg2, hbl, hsz⟩ := ha.out (by omega)
            obtain ⟨y, c2⟩ := cell_some hbl k (by omega)
            have f2 := hbl.frozen k
            go_wp2
            go_roundw
            case rel =>
              exact ⟨k + 1, hlt, by go_num, Lib.hid (fun _ => ⟨g, _, rfl, hg1, hg2, hbl.set _ _, by rw [Array.size_setIfInBounds]; exact hsz⟩), hb.far (by exact hg2) _, hv.far (show g < _ from by omega) _, hx.setCell (show _ ≤ g from by omega) _⟩
            case measure => simp [intOf]; omega
          · go_wp2_with (go_at_call 20; refine (same_true _ _ l _ hlen (RdI.of_own hb) (RdI.of_own hv)).mono ?_; rintro e wz ⟨rfl, hxz⟩)
            go_ret
            exact ⟨rfl, hx.trans hxz⟩
      · have hmb : decide ((4000000 : Int) < (s.size : Int) * (t.size : Int)) = true := by simp; omega
        go_enter Try.func7, Try.ntmps7
        go_wp2_with (go_at_call 17; refine (seekLives_any _).mono ?_; rintro e w1 ⟨rfl, hx1⟩)
        go_ret
        exact ⟨rfl, hx1⟩
    · have htb : decide ((20000 : Int) < (t.size : Int)) = true := by simp; omega
      go_enter Try.func7, Try.ntmps7
      go_wp2_with (go_at_call 17; refine (seekLives_any _).mono ?_; rintro e w1 ⟨rfl, hx1⟩)
      go_ret
      exact ⟨rfl, hx1⟩
  · have hsb : decide ((20000 : Int) < (s.size : Int)) = true := by simp; omega
    go_enter Try.func7, Try.ntmps7
    go_wp2_with (go_at_call 17; refine (seekLives_any _).mono ?_; rintro e w1 ⟨rfl, hx1⟩)
    go_ret
    exact ⟨rfl, hx1⟩

end Go.Proofs.Ytceolkbekmlhdaa
