/- The law OctetJoins as a walk. Condition: the list of sets is a slice that came in. -/
import Derived.Test.YtfgocamajfipmaaOSets
import Derived.Test.YtfgocamajfipmaaOLives
import Derived.Test.YtfgocamajfipmaaRefJ
import Derived.Test.YtfgocamajfipmaaTail
namespace Go.Proofs.Ytfgocamajfipmaa
open Go.RowKit

theorem info_setz : (Try.prog.info? 25).map (fun i => (i.zero, i.size, i.bytes)) = some (some (.agg #[.int .u64 0, .int .u64 0, .int .u64 0, .int .u64 0]), 4, 32) := by kernel_rfl
/-- The set {9}. -/
def nineB : Nat → Bool := ofL [0, 3]
theorem nine_wd : wd nineB 0 = 9 ∧ wd nineB 1 = 0 ∧ wd nineB 2 = 0 ∧ wd nineB 3 = 0 := by decide +kernel
theorem setV_nine : setV nineB = .agg #[.int .u64 9, .int .u64 0, .int .u64 0, .int .u64 0] := by
  obtain ⟨h0, h1, h2, h3⟩ := nine_wd
  unfold setV u64v
  rw [h0, h1, h2, h3]
  rfl
theorem cS_nine : cS [nineB] = [.int .u64 9, .int .u64 0, .int .u64 0, .int .u64 0] := by
  obtain ⟨h0, h1, h2, h3⟩ := nine_wd
  unfold cS cS1 u64v
  rw [h0, h1, h2, h3]
  rfl
theorem setV_no : setV noB = .agg #[.int .u64 0, .int .u64 0, .int .u64 0, .int .u64 0] := by
  unfold setV u64v noB
  rw [wd_none, wd_none, wd_none, wd_none]
  rfl
theorem rNot_zero (w : World) : Calls Try.prog 7 #[.agg #[.int .u64 0, .int .u64 0, .int .u64 0, .int .u64 0]] w fun r w' => r = .returned (setV fun _ => true) ∧ Ext w w' := by
  have h := rNot_any noB w
  rw [setV_no] at h
  exact h
theorem rJoin_o (p q : Nat → Bool) (w : World) :
    Calls Try.prog 8 #[.agg #[.int .u64 (wd p 0 : Int), .int .u64 (wd p 1 : Int), .int .u64 (wd p 2 : Int), .int .u64 (wd p 3 : Int)], .agg #[.int .u64 (wd q 0 : Int), .int .u64 (wd q 1 : Int), .int .u64 (wd q 2 : Int), .int .u64 (wd q 3 : Int)]] w fun r w' => r = .returned (setV fun b => p b || q b) ∧ Ext w w' := rJoin_any p q w
theorem rMeet_o (p q : Nat → Bool) (w : World) :
    Calls Try.prog 9 #[.agg #[.int .u64 (wd p 0 : Int), .int .u64 (wd p 1 : Int), .int .u64 (wd p 2 : Int), .int .u64 (wd p 3 : Int)], .agg #[.int .u64 (wd q 0 : Int), .int .u64 (wd q 1 : Int), .int .u64 (wd q 2 : Int), .int .u64 (wd q 3 : Int)]] w fun r w' => r = .returned (setV fun b => p b && q b) ∧ Ext w w' := rMeet_any p q w

theorem join_o (ps : List (Nat → Bool)) (v : Value) (w : World) (hv : RdS w v ps) (hl : ps.length ≤ 1000000000000) :
    Calls Try.prog 10 #[v] w fun r w' => r = .returned (.agg #[.int .u64 (wd (joinL ps) 0 : Int), .int .u64 (wd (joinL ps) 1 : Int), .int .u64 (wd (joinL ps) 2 : Int), .int .u64 (wd (joinL ps) 3 : Int)]) ∧ Ext w w' := join_any ps v w hv hl
theorem meet_o (ps : List (Nat → Bool)) (v : Value) (w : World) (hv : RdS w v ps) (hl : ps.length ≤ 1000000000000) :
    Calls Try.prog 11 #[v] w fun r w' => r = .returned (.agg #[.int .u64 (wd (meetL ps) 0 : Int), .int .u64 (wd (meetL ps) 1 : Int), .int .u64 (wd (meetL ps) 2 : Int), .int .u64 (wd (meetL ps) 3 : Int)]) ∧ Ext w w' := meet_any ps v w hv hl
theorem less_o (p q : Nat → Bool) (w : World) :
    Calls Try.prog 12 #[.agg #[.int .u64 (wd p 0 : Int), .int .u64 (wd p 1 : Int), .int .u64 (wd p 2 : Int), .int .u64 (wd p 3 : Int)], .agg #[.int .u64 (wd q 0 : Int), .int .u64 (wd q 1 : Int), .int .u64 (wd q 2 : Int), .int .u64 (wd q 3 : Int)]] w fun r w' => r = .returned (.agg #[.int .u64 (wd (fun b => p b && !q b) 0 : Int), .int .u64 (wd (fun b => p b && !q b) 1 : Int), .int .u64 (wd (fun b => p b && !q b) 2 : Int), .int .u64 (wd (fun b => p b && !q b) 3 : Int)]) ∧ Ext w w' := less_any p q w
theorem not_o (p : Nat → Bool) (w : World) :
    Calls Try.prog 13 #[.agg #[.int .u64 (wd p 0 : Int), .int .u64 (wd p 1 : Int), .int .u64 (wd p 2 : Int), .int .u64 (wd p 3 : Int)]] w fun r w' => r = .returned (.agg #[.int .u64 (wd (fun b => !p b) 0 : Int), .int .u64 (wd (fun b => !p b) 1 : Int), .int .u64 (wd (fun b => !p b) 2 : Int), .int .u64 (wd (fun b => !p b) 3 : Int)]) ∧ Ext w w' := not_any p w
theorem rNot_o (p : Nat → Bool) (w : World) :
    Calls Try.prog 7 #[.agg #[.int .u64 (wd p 0 : Int), .int .u64 (wd p 1 : Int), .int .u64 (wd p 2 : Int), .int .u64 (wd p 3 : Int)]] w fun r w' => r = .returned (.agg #[.int .u64 (wd (fun b => !p b) 0 : Int), .int .u64 (wd (fun b => !p b) 1 : Int), .int .u64 (wd (fun b => !p b) 2 : Int), .int .u64 (wd (fun b => !p b) 3 : Int)]) ∧ Ext w w' := rNot_any p w
theorem rMeet_o2 (p q : Nat → Bool) (w : World) :
    Calls Try.prog 9 #[.agg #[.int .u64 (wd p 0 : Int), .int .u64 (wd p 1 : Int), .int .u64 (wd p 2 : Int), .int .u64 (wd p 3 : Int)], .agg #[.int .u64 (wd (fun b => !q b) 0 : Int), .int .u64 (wd (fun b => !q b) 1 : Int), .int .u64 (wd (fun b => !q b) 2 : Int), .int .u64 (wd (fun b => !q b) 3 : Int)]] w fun r w' => r = .returned (.agg #[.int .u64 (wd (fun b => p b && !q b) 0 : Int), .int .u64 (wd (fun b => p b && !q b) 1 : Int), .int .u64 (wd (fun b => p b && !q b) 2 : Int), .int .u64 (wd (fun b => p b && !q b) 3 : Int)]) ∧ Ext w w' := rMeet_any p (fun b => !q b) w

set_option maxRecDepth 100000 in
set_option maxHeartbeats 8000000 in
theorem joins_core (ps : List (Nat → Bool)) (A : Option Addr) (cap : Nat) (p q : Nat → Bool) (w : World) (hn : ps.length ≤ 300)
    (hx0 : (A = none ∧ cap = 0 ∧ ps = []) ∨ ∃ ad, A = some ad ∧ ∀ j u, (cS ps)[j]? = some u → w.cell? (ad.add j) = some u)
    (hc : ∀ j, j < ps.length → ∃ g o, A = some ⟨g, o, none⟩ ∧ ∀ i, i < 4 → w.cell? ⟨g, o + j * 4 + i, none⟩ = some (u64v (wd (ps.getD j noB) i))) :
    Calls Try.prog 3 #[.slice A ps.length cap, .agg #[.int .u64 (wd p 0 : Int), .int .u64 (wd p 1 : Int), .int .u64 (wd p 2 : Int), .int .u64 (wd p 3 : Int)], .agg #[.int .u64 (wd q 0 : Int), .int .u64 (wd q 1 : Int), .int .u64 (wd q 2 : Int), .int .u64 (wd q 3 : Int)]] w fun r w' => r = .returned (.bool true) ∧ Ext w w' := by
  have HL := Lib.hid (fun W => octetLives_any W)
  have HX0 := Lib.hid hx0
  have HC := Lib.hid hc
  clear hx0 hc
  obtain ⟨w1, hw1⟩ : ∃ w1, w1 = (w.alloc (.cells #[.int .u64 (wd p 0 : Int), .int .u64 (wd p 1 : Int), .int .u64 (wd p 2 : Int), .int .u64 (wd p 3 : Int)] 25)).alloc (.cells #[.int .u64 (wd q 0 : Int), .int .u64 (wd q 1 : Int), .int .u64 (wd q 2 : Int), .int .u64 (wd q 3 : Int)] 25) := ⟨_, rfl⟩
  have ha : Blk w1 w.heap.size 25 (setC p) := by rw [hw1]; exact (Blk.new w 25 (setC p)).alloc _
  have hb : Blk w1 (w.heap.size + 1) 25 (setC q) := by rw [hw1]; exact heap_alloc2_new w (.cells (setC p) 25) (.cells (setC q) 25)
  have hx1 : Ext w w1 := by rw [hw1]; exact ((Ext.refl w).alloc _).alloc _
  have n1 : (ps.length : Int) ≤ 300 := by omega
  go_enter Try.func3, Try.ntmps3
  go_upto_region 1 with fail
  rw [← hw1]
  clear hw1
  go_upto_region 5 with (go_at_call 6; refine (HL.out _).mono ?_; rintro e w2 ⟨rfl, hx2⟩)
  replace ha := ha.ext hx2
  replace hb := hb.ext hx2
  replace hx1 := hx1.trans hx2
  clear hx2 HL
  have hxs : ∀ W, Ext w W → (Value.slice A ps.length cap = .slice none 0 0 ∧ ps = []) ∨ ∃ ad c, Value.slice A ps.length cap = .slice (some ad) ps.length c ∧ ∀ j u, (cS ps)[j]? = some u → W.cell? (ad.add j) = some u := fun W hW => by
    rcases HX0.out with ⟨h1, h2, h3⟩ | ⟨ad, h1, h2⟩
    · exact .inl ⟨by rw [h1, h2, h3]; rfl, h3⟩
    · exact .inr ⟨ad, cap, by rw [h1], fun j u hu => hW.cell (h2 j u hu)⟩
  have hx3 := hx1.alloc (.cells #[] 25)
  have hxs3 := Lib.hid (hxs _ hx3)
  have own0 : OwnS (w2.alloc (.cells #[] 25)) w2.heap.size 25 (.slice (some ⟨w2.heap.size, 0, none⟩) 0 0) [] := ⟨rfl, .inr ⟨w2.heap.size, 0, #[], rfl, Nat.le_refl _, heap_alloc_new w2 _, Nat.le_refl _, Nat.zero_le _, rfl, rfl⟩⟩
  have hnine : ∀ (W : World), ∀ j u, (cS [nineB])[j]? = some u → (W.alloc (.cells #[.int .u64 9, .int .u64 0, .int .u64 0, .int .u64 0] 25)).cell? ((⟨W.heap.size, 0, none⟩ : Addr).add j) = some u := fun W j u hu => by
    have ea : (⟨W.heap.size, 0, none⟩ : Addr).add j = ⟨W.heap.size, j, none⟩ := by unfold Addr.add; split <;> simp_all
    rw [ea, (Blk.new W _ _).cell, ← hu, cS_nine]
    simp
  have HN := Lib.hid hnine
  clear hxs hnine HX0
  go_upto_region 6 with (first
    | (at_builtin; refine wpList_appS0 rfl (.tmp 19) (.tmp 20) 22 rfl w2.heap.size 25 _ Try.underlying22 info_setz rfl w2.heap.size ps rfl own0 hxs3.out (by omega) (by simp) ?_; intro v4 w4 own4 hb4; have hz4 : w2.heap.size ≤ w4.heap.size := Nat.le_trans (Nat.le_succ _) (by simpa using hb4.size))
    | (at_builtin; refine wpList_appS rfl (.tmp 21) (.tmp 23) 22 rfl w2.heap.size 25 _ Try.underlying22 info_setz rfl _ ps [nineB] rfl (own4.ext ((Ext.refl w4).alloc _)) ⟨w4.heap.size, 0, none⟩ 1 1 rfl rfl (HN.out w4) (by omega) (by simp; omega) ?_; intro v5 w5 own5 hb5 hn5))
  have hy4 : Ext w2 w4 := Ext.of_below ((Ext.refl w2).alloc _) hb4 (Nat.le_refl _)
  have hy5 : Ext w2 w5 := Ext.of_below (hy4.alloc _) hb5 (Nat.le_refl _)
  have hlen : (ps ++ [nineB]).length = ps.length + 1 := by simp
  rcases own5.2 with ⟨h0, _⟩ | ⟨g5, cap5, cur, rfl, hg5, _, hnc, _, _⟩
  · exact absurd (hn5.1 h0).2 (by omega)
  have hrow : ∀ j, j < ps.length → ∀ i, i < 4 → w5.cell? ⟨g5, j * 4 + i, none⟩ = some (u64v (wd (ps.getD j noB) i)) := fun j hj i hi => by
    rw [own5.cells j i (by omega) hi, List.getD_eq_getElem?_getD, List.getElem?_append_left hj, ← List.getD_eq_getElem?_getD]
  have hlast : ∀ i, i < 4 → w5.cell? ⟨g5, ps.length * 4 + i, none⟩ = some (u64v (wd nineB i)) := fun i hi => by
    rw [own5.cells ps.length i (by omega) hi, List.getD_eq_getElem?_getD, List.getElem?_append_right (Nat.le_refl _), Nat.sub_self]
    rfl
  have hmine : RdS w5 (.slice (some ⟨g5, 0, none⟩) ps.length cap5) ps := ⟨_, _, rfl, fun j hj => ⟨g5, 0, rfl, fun i hi => by rw [Nat.zero_add]; exact hrow j hj i hi⟩⟩
  have HR := Lib.hid hrow
  have HLA := Lib.hid hlast
  have HM := Lib.hid hmine
  replace ha := ha.ext hy5
  replace hb := hb.ext hy5
  replace hx1 := hx1.trans hy5
  rw [hlen] at hnc ⊢
  have d1 : (0 : Int) ≤ (ps.length : Int) := by omega
  have d2 : (ps.length : Int) ≤ (cap5 : Int) := by omega
  have d3 : (ps.length : Int) < (ps.length + 1 : Nat) := by omega
  have d4 : ps.length ≤ cap5 := by omega
  clear hy4 hy5 hb4 hb5 own0 own4 own5 hn5 hxs3 hx3 hrow hlast hmine hnc hg5 HN hz4
  go_upto_region 8 with (first
    | (go_at_call 7; refine (rNot_zero _).mono ?_; rintro e w6 ⟨rfl, hx6⟩; have hJ0 : Blk ((w6.alloc (.cells #[.int .u64 0, .int .u64 0, .int .u64 0, .int .u64 0] 25)).alloc (.cells #[.int .u64 0, .int .u64 0, .int .u64 0, .int .u64 0] 25)) w6.heap.size 25 (setC fun _ => false) := (by rw [setC_none]; exact (Blk.new w6 _ _).alloc _); have hM0 : Blk ((w6.alloc (.cells #[.int .u64 0, .int .u64 0, .int .u64 0, .int .u64 0] 25)).alloc (.cells #[.int .u64 0, .int .u64 0, .int .u64 0, .int .u64 0] 25)) (w6.heap.size + 1) 25 (setC fun _ => false) := (by rw [setC_none]; exact heap_alloc2_new w6 _ _))
    | (refine wpl_storeSet rfl (.tmp 9) (.tmp 29) rfl w6.heap.size _ noB (fun _ => false) rfl setV_no.symm hJ0 ?_)
    | (refine wpl_storeSet rfl (.tmp 10) (.tmp 31) rfl (w6.heap.size + 1) _ (fun _ => true) (fun _ => false) rfl rfl (hM0.rowFar (by omega)) ?_))
  have hJ1 := (hJ0.setRow (cs' := setC noB)).rowFar (g := w6.heap.size + 1) (cs' := setC fun _ => true) (by omega)
  have hM1 := (hM0.rowFar (g := w6.heap.size) (cs' := setC noB) (by omega)).setRow (cs' := setC fun _ => true)
  have hX1 := (((hx6.alloc (.cells #[.int .u64 0, .int .u64 0, .int .u64 0, .int .u64 0] 25)).alloc (.cells #[.int .u64 0, .int .u64 0, .int .u64 0, .int .u64 0] 25)).setRow hx6.size (setC noB)).setRow (Nat.le_succ_of_le hx6.size) (setC fun _ => true)
  have hz6 := hx6.size
  clear hJ0 hM0 hx6
  generalize (((w6.alloc (.cells #[.int .u64 0, .int .u64 0, .int .u64 0, .int .u64 0] 25)).alloc (.cells #[.int .u64 0, .int .u64 0, .int .u64 0, .int .u64 0] 25)).setRow w6.heap.size (setC noB)).setRow (w6.heap.size + 1) (setC fun _ => true) = w7 at *
  generalize w6.heap.size = J at *
  go_wp2
  go_loopw [12, 34] (fun _ i wr => ∃ k : Nat, k ≤ ps.length ∧ i = .int .i64 k ∧ Blk wr J 25 (setC (joinL (ps.take k))) ∧ Blk wr (J + 1) 25 (setC (meetL (ps.take k))) ∧ Ext w5 wr) (fun _ i _ => ps.length - (intOf i).toNat)
  case atStart => exact ⟨0, Nat.zero_le _, rfl, hJ1, hM1, hX1⟩
  case round =>
    clear hJ1 hM1 hX1
    obtain ⟨k, hk, rfl, hJ, hM, hX⟩ := hrel
    by_cases hlt : k < ps.length
    · obtain ⟨g, o, rfl, hcell⟩ := HC.out k hlt
      have hxw := hx1.trans hX
      have c0 := hxw.cell (hcell 0 (by omega))
      have c1 := hxw.cell (hcell 1 (by omega))
      have c2 := hxw.cell (hcell 2 (by omega))
      have c3 := hxw.cell (hcell 3 (by omega))
      have JS := Lib.hid (joinL_snoc ps k hlt)
      have MS := Lib.hid (meetL_snoc ps k hlt)
      generalize ps.getD k noB = t at *
      clear hcell hxw
      rw [Nat.add_zero] at c0
      unfold u64v at c0 c1 c2 c3
      go_upto_region 11 with fail
      have hS : Blk (wr.alloc (.cells #[.int .u64 (wd t 0 : Int), .int .u64 (wd t 1 : Int), .int .u64 (wd t 2 : Int), .int .u64 (wd t 3 : Int)] 25)) wr.heap.size 25 (setC t) := Blk.new wr _ _
      replace hJ := hJ.alloc (.cells #[.int .u64 (wd t 0 : Int), .int .u64 (wd t 1 : Int), .int .u64 (wd t 2 : Int), .int .u64 (wd t 3 : Int)] 25)
      replace hM := hM.alloc (.cells #[.int .u64 (wd t 0 : Int), .int .u64 (wd t 1 : Int), .int .u64 (wd t 2 : Int), .int .u64 (wd t 3 : Int)] 25)
      replace hX := hX.alloc (.cells #[.int .u64 (wd t 0 : Int), .int .u64 (wd t 1 : Int), .int .u64 (wd t 2 : Int), .int .u64 (wd t 3 : Int)] 25)
      clear c0 c1 c2 c3
      generalize wr.alloc (.cells #[.int .u64 (wd t 0 : Int), .int .u64 (wd t 1 : Int), .int .u64 (wd t 2 : Int), .int .u64 (wd t 3 : Int)] 25) = wq at *
      generalize wr.heap.size = S at *
      generalize joinL (ps.take k) = jp at *
      generalize meetL (ps.take k) = mp at *
      obtain ⟨j0, j1, j2, j3, _, _, _, _⟩ := setC_cells hJ
      obtain ⟨m0, m1, m2, m3, _, _, _, _⟩ := setC_cells hM
      obtain ⟨s0, s1, s2, s3, _, _, _, _⟩ := setC_cells hS
      replace j0 := cell_plus j0
      replace j1 := cell_plus j1
      replace j2 := cell_plus j2
      replace j3 := cell_plus j3
      replace m0 := cell_plus m0
      replace m1 := cell_plus m1
      replace m2 := cell_plus m2
      replace m3 := cell_plus m3
      replace s0 := cell_plus s0
      replace s1 := cell_plus s1
      replace s2 := cell_plus s2
      replace s3 := cell_plus s3
      refine wp_region_plus_tail 6 (by kernel_rfl) (by kernel_rfl) ?_
      simp only [List.take_succ_cons, List.take_zero, List.drop_succ_cons, List.drop_zero]
      repeat (go_big_quiet_step (first
        | (go_at_call 8; exact Calls.plus_of (rJoin_o jp t _))
        | (go_at_call 9; exact Calls.plus_of (rMeet_o mp t _))))
      refine wpQuiet_nil ?_
      intro x
      clear j0 j1 j2 j3 m0 m1 m2 m3 s0 s1 s2 s3
      replace hJ := hJ.ext (plus_ext wq x)
      replace hM := hM.ext (plus_ext wq x)
      replace hX := hX.trans (plus_ext wq x)
      generalize plus wq x = wv at *
      go_wp2_with (first
        | (refine wpl_storeSet rfl (.tmp 9) (.tmp 40) rfl J _ (fun b => jp b || t b) jp rfl rfl hJ ?_)
        | (refine wpl_storeSet rfl (.tmp 10) (.tmp 43) rfl (J + 1) _ (fun b => mp b && t b) mp rfl rfl (hM.rowFar (by omega)) ?_))
      go_roundw
      case rel =>
        refine ⟨k + 1, by omega, by go_num, ?_, ?_, (hX.setRow hz6 _).setRow (by omega) _⟩
        · rw [JS.out]; exact hJ.setRow.rowFar (by omega)
        · rw [MS.out]; exact (hM.rowFar (by omega)).setRow
      case measure => simp [intOf]; omega
    · have hkl : ps.take k = ps := List.take_of_length_le (by omega)
      rw [hkl] at hJ hM
      clear hkl
      go_upto_region 13 with fail
      have HJ := Lib.hid (fun W (hW : Ext w5 W) => join_o ps _ W (HM.out.ext hW) (by omega))
      have HE := Lib.hid (fun W (hW : Ext w5 W) => meet_o ps _ W (HM.out.ext hW) (by omega))
      generalize joinL ps = jp at *
      generalize meetL ps = mp at *
      have l0 := hX.cell (HLA.out 0 (by omega))
      have l1 := hX.cell (HLA.out 1 (by omega))
      have l2 := hX.cell (HLA.out 2 (by omega))
      have l3 := hX.cell (HLA.out 3 (by omega))
      obtain ⟨e0, e1, e2, e3⟩ := nine_wd
      unfold u64v at l0 l1 l2 l3
      rw [Nat.add_zero, e0] at l0
      rw [e1] at l1
      rw [e2] at l2
      rw [e3] at l3
      clear e0 e1 e2 e3
      obtain ⟨j0, j1, j2, j3, _, _, _, _⟩ := setC_cells hJ
      obtain ⟨m0, m1, m2, m3, _, _, _, _⟩ := setC_cells hM
      replace j0 := cell_plus j0
      replace j1 := cell_plus j1
      replace j2 := cell_plus j2
      replace j3 := cell_plus j3
      replace m0 := cell_plus m0
      replace m1 := cell_plus m1
      replace m2 := cell_plus m2
      replace m3 := cell_plus m3
      replace l0 := cell_plus l0
      replace l1 := cell_plus l1
      replace l2 := cell_plus l2
      replace l3 := cell_plus l3
      have hnq := neq_same
      have hXH := Lib.hid hX
      refine wp_region_plus (by kernel_rfl) (by kernel_rfl) ?_
      repeat (go_big_quiet_step (first
        | (go_at_call 10; exact Calls.plus_of (HJ.out _ (hXH.out.trans (plus_ext _ _))))
        | (go_at_call 11; exact Calls.plus_of (HE.out _ (hXH.out.trans (plus_ext _ _))))))
      refine wpQuiet_nil ?_
      intro x
      clear j0 j1 j2 j3 m0 m1 m2 m3 l0 l1 l2 l3
      replace hX := hX.trans (plus_ext wr x)
      generalize plus wr x = wv at *
      clear hJ hM HJ HE hXH HLA
      go_wp2
      go_loopw [13, 66] (fun _ i wr => ∃ k : Nat, k ≤ ps.length ∧ i = .int .i64 k ∧ Ext w5 wr) (fun _ i _ => ps.length - (intOf i).toNat)
      case atStart => exact ⟨0, Nat.zero_le _, rfl, hX⟩
      case round =>
        clear hX
        obtain ⟨k, hk, rfl, hX⟩ := hrel
        by_cases hlt : k < ps.length
        · obtain ⟨g, o, rfl, hcell⟩ := HC.out k hlt
          have hxw := hx1.trans hX
          have c0 := hxw.cell (hcell 0 (by omega))
          have c1 := hxw.cell (hcell 1 (by omega))
          have c2 := hxw.cell (hcell 2 (by omega))
          have c3 := hxw.cell (hcell 3 (by omega))
          have r0 := hX.cell (HR.out k hlt 0 (by omega))
          have r1 := hX.cell (HR.out k hlt 1 (by omega))
          have r2 := hX.cell (HR.out k hlt 2 (by omega))
          have r3 := hX.cell (HR.out k hlt 3 (by omega))
          generalize ps.getD k noB = t at *
          clear hcell hxw
          rw [Nat.add_zero] at c0 r0
          unfold u64v at c0 c1 c2 c3 r0 r1 r2 r3
          have d5 : (k : Int) < (ps.length : Int) := by omega
          go_upto_region 18 with fail
          go_region
          go_wp2
          go_roundw
          case rel => exact ⟨k + 1, by omega, by go_num, hX.drew⟩
          case measure => simp [intOf]; omega
        · go_upto_region 21 with fail
          replace ha := ha.ext hX
          replace hb := hb.ext hX
          replace hx1 := hx1.trans hX
          obtain ⟨j0, j1, j2, j3, _, _, _, _⟩ := setC_cells ha
          obtain ⟨m0, m1, m2, m3, _, _, _, _⟩ := setC_cells hb
          replace j0 := cell_plus j0
          replace j1 := cell_plus j1
          replace j2 := cell_plus j2
          replace j3 := cell_plus j3
          replace m0 := cell_plus m0
          replace m1 := cell_plus m1
          replace m2 := cell_plus m2
          replace m3 := cell_plus m3
          clear hnq
          have heq := eql_same
          refine wp_region_plus (by kernel_rfl) (by kernel_rfl) ?_
          repeat (go_big_quiet_step (first
            | (go_at_call 12; exact Calls.plus_of (less_o p q _))
            | (go_at_call 7; with_reducible exact Calls.plus_of (rNot_o q _))
            | (go_at_call 9; exact Calls.plus_of (rMeet_o2 p q _))
            | (go_at_call 13; exact Calls.plus_of (not_o p _))
            | (go_at_call 7; with_reducible exact Calls.plus_of (rNot_o p _))))
          refine wpQuiet_nil ?_
          intro y
          replace hx1 := hx1.trans (plus_ext _ y)
          go_wp2
          go_ret
          exact ⟨rfl, hx1⟩

theorem octetJoins_walk (ps : List (Nat → Bool)) (cap : Nat) (v : Value) (p q : Nat → Bool) (w : World) (hv : RdS w v ps)
    (hv' : (v = .slice none 0 0 ∧ ps = []) ∨ ∃ ad, v = .slice (some ad) ps.length cap ∧ ps.length ≤ cap ∧ ∀ j u, (cS ps)[j]? = some u → w.cell? (ad.add j) = some u) :
    Calls Try.prog 3 #[v, setV p, setV q] w fun r w' => r = .returned (.bool true) ∧ Ext w w' := by
  obtain ⟨A, c, rfl, hc⟩ := hv
  by_cases hn : ps.length ≤ 300
  · refine joins_core ps A c p q w hn ?_ hc
    rcases hv' with ⟨h1, h2⟩ | ⟨ad, h1, _, h3⟩
    · subst h2
      simp only [Value.slice.injEq] at h1
      exact .inl ⟨h1.1, h1.2.2, rfl⟩
    · simp only [Value.slice.injEq] at h1
      exact .inr ⟨ad, h1.1, h3⟩
  · have HL := Lib.hid (fun W => octetLives_any W)
    have n1 : (300 : Int) < (ps.length : Int) := by omega
    have hx1 : Ext w ((w.alloc (.cells #[.int .u64 (wd p 0 : Int), .int .u64 (wd p 1 : Int), .int .u64 (wd p 2 : Int), .int .u64 (wd p 3 : Int)] 25)).alloc (.cells #[.int .u64 (wd q 0 : Int), .int .u64 (wd q 1 : Int), .int .u64 (wd q 2 : Int), .int .u64 (wd q 3 : Int)] 25)) := ((Ext.refl w).alloc _).alloc _
    clear hc hv'
    unfold setV u64v
    go_enter Try.func3, Try.ntmps3
    go_wp2_with (go_at_call 6; refine (HL.out _).mono ?_; rintro e w2 ⟨rfl, hx2⟩)
    go_ret
    exact ⟨rfl, hx1.trans hx2⟩

end Go.Proofs.Ytfgocamajfipmaa
