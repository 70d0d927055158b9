/- The law OctetAlgebra as a walk. No condition. -/
import Derived.Test.YtfgocamajfipmaaInvT
import Derived.Test.YtfgocamajfipmaaRowCov
import Derived.Test.YtfgocamajfipmaaORows
import Derived.Test.YtfgocamajfipmaaOJoins
namespace Go.Proofs.Ytfgocamajfipmaa
open Go.RowKit

theorem range_o (lo hi : Nat) (h1 : lo < 256) (h2 : hi < 256) (w : World) :
    Calls Try.prog 17 #[.int .u8 lo, .int .u8 hi] w fun r w' => r = .returned (.agg #[.int .u64 (wd (rangeB lo hi) 0 : Int), .int .u64 (wd (rangeB lo hi) 1 : Int), .int .u64 (wd (rangeB lo hi) 2 : Int), .int .u64 (wd (rangeB lo hi) 3 : Int)]) ∧ Ext w w' := range_any lo hi w h1 h2
theorem count_o (p : Nat → Bool) (w : World) :
    Calls Try.prog 18 #[.agg #[.int .u64 (wd p 0 : Int), .int .u64 (wd p 1 : Int), .int .u64 (wd p 2 : Int), .int .u64 (wd p 3 : Int)]] w fun r w' => r = .returned (.int .i64 (cntB p 256)) ∧ Ext w w' := count_any p w

theorem joinL_two (a b : Nat → Bool) : joinL [a, b] = fun x => a x || b x := by funext x; simp [joinL]
theorem joinL_qpq (p q : Nat → Bool) : joinL [q, p, q] = fun x => p x || q x := by funext x; cases h : p x <;> cases h2 : q x <;> simp [joinL, h, h2]
theorem meetL_two (a b : Nat → Bool) : meetL [a, b] = fun x => a x && b x := by funext x; simp [meetL]
theorem meetL_nots (p q : Nat → Bool) : meetL [fun b => !p b, fun b => !q b] = fun x => !(p x || q x) := by funext x; simp [meetL]
theorem not_o2 (p : Nat → Bool) (w : World) :
    Calls Try.prog 13 #[.agg #[.int .u64 (wd (fun b => !p b) 0 : Int), .int .u64 (wd (fun b => !p b) 1 : Int), .int .u64 (wd (fun b => !p b) 2 : Int), .int .u64 (wd (fun b => !p b) 3 : Int)]] w fun r w' => r = .returned (.agg #[.int .u64 (wd p 0 : Int), .int .u64 (wd p 1 : Int), .int .u64 (wd p 2 : Int), .int .u64 (wd p 3 : Int)]) ∧ Ext w w' := by
  have h := not_o (fun b => !p b) w
  simp only [Bool.not_not] at h
  exact h
theorem r21 : List.range 21 = [0, 1, 2, 3, 4, 5, 6, 7, 8, 9, 10, 11, 12, 13, 14, 15, 16, 17, 18, 19, 20] := rfl
theorem r24 : List.range 24 = [0, 1, 2, 3, 4, 5, 6, 7, 8, 9, 10, 11, 12, 13, 14, 15, 16, 17, 18, 19, 20, 21, 22, 23] := rfl
theorem r26 : List.range 26 = [0, 1, 2, 3, 4, 5, 6, 7, 8, 9, 10, 11, 12, 13, 14, 15, 16, 17, 18, 19, 20, 21, 22, 23, 24, 25] := rfl
theorem r8 : List.range 8 = [0, 1, 2, 3, 4, 5, 6, 7] := rfl

set_option maxRecDepth 100000 in
set_option maxHeartbeats 8000000 in
theorem octetAlgebra_walk (p q : Nat → Bool) (w : World) :
    Calls Try.prog 5 #[setV p, setV q] w fun r w' => r = .returned (.bool true) ∧ Ext w w' := by
  have HL := Lib.hid (fun W => octetLives_any W)
  have HRW := Lib.hid (fun m W => rows_o p m W)
  have hNN := rowsTo_len p 256
  unfold setV u64v
  go_enter Try.func5, Try.ntmps5
  go_upto_region 1 with fail
  have na : Blk (w.alloc (.cells (setC p) 25)) w.heap.size 25 (setC p) := Blk.new w _ _
  have f2 := (Ext.refl w).alloc (.cells (setC p) 25)
  have z2 := World.size_alloc w (.cells (setC p) 25)
  change Code.wp Try.prog _ _ _ ((w.alloc (.cells (setC p) 25)).alloc (.cells (setC q) 25))
  generalize w.alloc (.cells (setC p) 25) = w2 at *
  have nb : Blk (w2.alloc (.cells (setC q) 25)) w2.heap.size 25 (setC q) := Blk.new w2 _ _
  have f4 := f2.alloc (.cells (setC q) 25)
  replace na := na.alloc (.cells (setC q) 25)
  generalize w2.alloc (.cells (setC q) 25) = w4 at *
  rw [← z2]
  clear z2 f2
  generalize w2.heap.size = bb at *
  generalize hba : w.heap.size = ba at na ⊢
  have HBA := Lib.hid hba
  clear hba
  go_upto_region 3 with (go_at_call 6; refine (HL.out _).mono ?_; rintro e w5 ⟨rfl, hx5⟩)
  replace na := na.ext hx5
  replace nb := nb.ext hx5
  replace f4 := f4.trans hx5
  clear hx5 HL
  obtain ⟨s0, s1, s2, s3, _, _, _, _⟩ := setC_cells na
  have HM1 := Lib.hid (cutR_neg (rowsTo p 256))
  go_upto_region 4 with (go_at_call 15; refine (HRW.out (-1) _).mono ?_; rintro e w6 ⟨A6, C6, rfl, own6, hx6⟩; rw [HM1.out] at own6 ⊢)
  clear s0 s1 s2 s3 HM1 HRW
  replace na := na.ext hx6
  replace nb := nb.ext hx6
  replace f4 := f4.trans hx6
  clear hx6
  go_upto_region 7 with fail
  have n7 : Blk (w6.alloc (.cells #[.int .u64 0, .int .u64 0, .int .u64 0, .int .u64 0] 25)) w6.heap.size 25 (setC (covB [])) := by rw [show covB [] = fun _ => false from rfl, setC_none]; exact Blk.new w6 _ _
  have hx7 : Ext w6 (w6.alloc (.cells #[.int .u64 0, .int .u64 0, .int .u64 0, .int .u64 0] 25)) := (Ext.refl w6).alloc _
  have z7 := World.size_alloc w6 (.cells #[.int .u64 0, .int .u64 0, .int .u64 0, .int .u64 0] 25)
  generalize w6.alloc (.cells #[.int .u64 0, .int .u64 0, .int .u64 0, .int .u64 0] 25) = w7 at *
  have HG := Lib.hid (rows_gap_at p 256)
  have HC := Lib.hid (rows_cov p 256)
  have HR := Lib.hid (rowsTo_lt p 256)
  generalize rowsTo p 256 = R at *
  have h67 : w6.heap.size < w7.heap.size := by omega
  clear z7
  go_wp2
  go_loopw [22] (fun i wr => ∃ k : Nat, k ≤ R.length ∧ i = .int .i64 k ∧ Blk wr w6.heap.size 25 (setC (covB (R.take k))) ∧ Ext w6 wr) (fun i _ => R.length - (intOf i).toNat)
  case atStart => exact ⟨0, Nat.zero_le _, rfl, n7, hx7⟩
  case round =>
    clear n7 hx7
    obtain ⟨k, hk, rfl, h7, hX⟩ := hrel
    by_cases hlt : k < R.length
    · obtain ⟨g6, cap6, e6, _, a6, c6⟩ := own6.cells k hlt
      simp only [Value.slice.injEq] at e6
      obtain ⟨rfl, _, rfl⟩ := e6
      have hmem : R.getD k (0, 0) ∈ R := by
        rw [List.getD_eq_getElem?_getD, List.getElem?_eq_getElem hlt]
        exact List.getElem_mem hlt
      obtain ⟨hlo, hhi⟩ := HR.out _ hmem
      have hsnoc : covB (R.take (k + 1)) = fun b => covB (R.take k) b || rangeB (R.getD k (0, 0)).1 (R.getD k (0, 0)).2 b := by
        funext b
        rw [show R.take (k + 1) = R.take k ++ [R.getD k (0, 0)] by
          rw [List.take_add_one, List.getD_eq_getElem?_getD, List.getElem?_eq_getElem hlt]; rfl, covB_snoc]
        rfl
      have HS := Lib.hid hsnoc
      replace a6 := hX.cell a6
      replace c6 := hX.cell c6
      have d5 : (k : Int) < (R.length : Int) := by omega
      have hprev : k ≠ 0 → ∃ h' : Nat, wr.cell? ⟨g6, (k - 1) * 2 + 1, none⟩ = some (.int .u8 (h' : Int)) ∧ h' + 1 < (R.getD k (0, 0)).1 := fun h0 => by
        obtain ⟨g', cap', e', _, _, c'⟩ := own6.cells (k - 1) (by omega)
        simp only [Value.slice.injEq, Option.some.injEq, Addr.mk.injEq] at e'
        obtain ⟨⟨rfl, _⟩, _⟩ := e'
        refine ⟨_, hX.cell c', ?_⟩
        have := HG.out (k - 1) (by omega)
        rwa [show k - 1 + 1 = k by omega] at this
      clear hsnoc hmem
      generalize (R.getD k (0, 0)).1 = lo at *
      generalize (R.getD k (0, 0)).2 = hi at *
      go_upto_region 10 with fail
      have n9 : Blk (wr.alloc (.cells #[.int .u8 (lo : Int), .int .u8 (hi : Int)] 36)) wr.heap.size 36 #[.int .u8 (lo : Int), .int .u8 (hi : Int)] := Blk.new wr _ _
      have hx9 : Ext wr (wr.alloc (.cells #[.int .u8 (lo : Int), .int .u8 (hi : Int)] 36)) := (Ext.refl wr).alloc _
      generalize wr.alloc (.cells #[.int .u8 (lo : Int), .int .u8 (hi : Int)] 36) = w9 at *
      have l0 : w9.cell? ⟨wr.heap.size, 0, none⟩ = some (.int .u8 (lo : Int)) := n9.cell 0
      have l1 : w9.cell? ⟨wr.heap.size, 1, none⟩ = some (.int .u8 (hi : Int)) := n9.cell 1
      replace h7 := h7.ext hx9
      replace hX := hX.trans hx9
      clear a6 c6
      generalize wr.heap.size = b9 at *
      have d6 : (lo : Int) ≤ (hi : Int) := by omega
      have HW := Lib.hid (⟨l0, l1⟩ : _ ∧ _)
      have m0 := cell_plus l0
      have m1 := cell_plus l1
      have hk0 : k = 0 ∨ ∃ h' : Nat, w9.cell? ⟨g6, (k - 1) * 2 + 1, none⟩ = some (.int .u8 (h' : Int)) ∧ (h' : Int) + 1 < (lo : Int) ∧ 0 < (k : Int) := by
        rcases Nat.eq_zero_or_pos k with h | h
        · exact .inl h
        · obtain ⟨h', c', hgap⟩ := hprev (by omega)
          exact .inr ⟨h', hx9.cell c', by omega, by omega⟩
      clear hprev hx9 own6 n9 l0 l1
      have d7 : ¬ hi < lo := by omega
      have HP7 := Lib.hid h7
      rcases hk0 with h0 | ⟨h', c', hgap, hkp⟩
      case' inl =>
        have d12 : ¬ 0 < k := by omega
        have d13 : ¬ (0 : Int) < (k : Int) := by omega
        clear h0
      case' inr =>
        have q1 : IntKind.i64.wrap ((k : Int) - 1) = ((k - 1 : Nat) : Int) := by rw [IntKind.wrap_i64]; omega
        have d8 : ((k - 1 : Nat) : Int) < (R.length : Int) := by omega
        have d9 : ¬ lo ≤ h' + 1 := by omega
        have d10 : ¬ (lo : Int) ≤ (h' : Int) + 1 := by omega
        have d11 : 0 < k := by omega
        replace c' := cell_plus c'
      all_goals
        refine wp_region_plus (by kernel_rfl) (by kernel_rfl) ?_
        repeat (go_big_quiet_step (fail))
        refine wpQuiet_nil ?_
        intro x
        replace h7 := h7.ext (plus_ext w9 x)
        replace hX := hX.trans (plus_ext w9 x)
        have l0 := (plus_ext w9 x).cell HW.out.1
        have l1 := (plus_ext w9 x).cell HW.out.2
        clear m0 m1 HW HP7
        generalize plus w9 x = wv at *
        go_upto_region 12 with fail
        refine wp_region_tags 50 8 [.set (covB (R.take k)), .one (.pointer (some ⟨b9, 0, none⟩)), .one (.int .u8 (lo : Int)), .one (.pointer (some ⟨b9, 1, none⟩)), .one (.int .u8 (hi : Int)), .set (rangeB lo hi), .sl [covB (R.take k), rangeB lo hi], .set (fun b => covB (R.take k) b || rangeB lo hi b)] (by kernel_rfl) (by kernel_rfl) (by kernel_rfl) (by kernel_rfl) (by kernel_rfl) ?_
        intro T hT
        simp only [spliceT, r8, List.map_cons, List.map_nil, List.take_succ_cons, List.take_zero, List.drop_succ_cons, List.drop_zero, List.cons_append, List.nil_append, Nat.reduceAdd] at hT
        simp only [List.take_succ_cons, List.take_zero, List.drop_succ_cons, List.drop_zero, AllS, Nat.reduceAdd]
        refine ⟨⟨?_, ?_, ?_, ?_, ?_, ?_, ?_, ?_, trivial⟩, ?_⟩
        --@STEPS made
        · intro u W hx hd
          clear hd
          rw [hT u]
          obtain ⟨s0, s1, s2, s3, _, _, _, _⟩ := setC_cells (h7.ext hx)
          go_wp2
          exact stepQ_mk ⟨Ext.refl _, _, by (try rw [hT]); simp [updN], put_set rfl⟩
        · intro u W hx hd
          clear hd
          rw [hT u]
          go_wp2
          exact stepQ_mk ⟨Ext.refl _, _, by (try rw [hT]); simp [updN], put_one rfl⟩
        · intro u W hx hd
          have t1 := get_one (v := u 1) rfl (hd 1 (mem_of (by kernel_rfl)))
          clear hd
          rw [hT u, t1]
          have s0 := hx.cell l0
          go_wp2
          exact stepQ_mk ⟨Ext.refl _, _, by (try rw [hT]); simp [updN, t1], put_one rfl⟩
        · intro u W hx hd
          clear hd
          rw [hT u]
          go_wp2
          exact stepQ_mk ⟨Ext.refl _, _, by (try rw [hT]); simp [updN], put_one rfl⟩
        · intro u W hx hd
          have t3 := get_one (v := u 3) rfl (hd 3 (mem_of (by kernel_rfl)))
          clear hd
          rw [hT u, t3]
          have s0 := hx.cell l1
          go_wp2
          exact stepQ_mk ⟨Ext.refl _, _, by (try rw [hT]); simp [updN, t3], put_one rfl⟩
        · intro u W hx hd
          have t2 := get_one (v := u 2) rfl (hd 2 (mem_of (by kernel_rfl)))
          have t4 := get_one (v := u 4) rfl (hd 4 (mem_of (by kernel_rfl)))
          clear hd
          rw [hT u, t2, t4]
          go_wp2_with (go_at_call 17; refine (range_o lo hi (by omega) hhi _).mono ?_; rintro e W' ⟨rfl, hx'⟩)
          exact stepQ_mk ⟨hx', _, by (try rw [hT]); simp [updN, t2, t4], put_set rfl⟩
        · intro u W hx hd
          have t0 := get_set (v := u 0) rfl (hd 0 (mem_of (by kernel_rfl)))
          have t5 := get_set (v := u 5) rfl (hd 5 (mem_of (by kernel_rfl)))
          clear hd
          rw [hT u, t0, t5]
          go_wp2
          exact stepQ_mk ⟨(Ext.refl W).alloc _, _, by (try rw [hT]); simp [updN, t0, t5], put_sl rfl (rds_two W _ _ _ 2)⟩
        · intro u W hx hd
          have t6 := get_sl (v := u 6) rfl (hd 6 (mem_of (by kernel_rfl)))
          clear hd
          rw [hT u]
          go_wp2_with (go_at_call 10; refine (join_o [covB (R.take k), rangeB lo hi] _ _ t6 (by simp)).mono ?_; rintro e W' ⟨rfl, hx'⟩; rw [joinL_two])
          exact stepQ_mk ⟨hx', _, by (try rw [hT]); simp [updN], put_set rfl⟩
        --@END made
        · intro u W hx hp
          have g7 := get_set (v := u 7) rfl (hp 7 (by omega))
          clear hp
          rw [hT u, g7]
          have hX2 := hX.trans hx
          have h72 := h7.ext hx
          go_wp2_with (refine wpl_storeSet rfl (.tmp 7) (.tmp 57) rfl w6.heap.size _ (fun b => covB (R.take k) b || rangeB lo hi b) (covB (R.take k)) rfl rfl h72 ?_)
          go_roundw
          case rel =>
            refine ⟨k + 1, by omega, by go_num, ?_, hX2.setRow (Nat.le_refl _) _⟩
            rw [HS.out]
            exact h72.setRow
          case measure => simp [intOf]; omega
    · have hkl : R.take k = R := List.take_of_length_le (by omega)
      rw [hkl] at h7
      have hcov : ∀ i, i < 4 → wd (covB R) i = wd p i := fun i hi => wd_congr fun j hj => by
        rw [HC.out, decide_eq_true (show 64 * i + j < 256 by omega), Bool.true_and]
      have hset : setC (covB R) = setC p := by
        unfold setC u64v
        rw [hcov 0 (by omega), hcov 1 (by omega), hcov 2 (by omega), hcov 3 (by omega)]
      rw [hset] at h7
      clear hkl hcov hset HC HG HR own6
      replace na := na.ext hX
      replace nb := nb.ext hX
      replace f4 := f4.trans hX
      clear hX
      go_upto_region 14 with fail
      refine wp_region_tags 59 21 [.set p, .set p, .one (.bool false), .one (.bool false), .set p, .set (fun b => !p b), .set p, .set p, .one (.bool false), .one (.bool false), .one (.bool false), .set p, .set q, .set (fun b => p b && !q b), .set p, .set q, .set (fun b => !q b), .sl [p, fun b => !q b], .set (fun b => p b && !q b), .one (.bool false), .one (.bool false)] (by kernel_rfl) (by kernel_rfl) (by kernel_rfl) (by kernel_rfl) (by kernel_rfl) ?_
      intro T hT
      simp only [spliceT, r21, List.map_cons, List.map_nil, List.take_succ_cons, List.take_zero, List.drop_succ_cons, List.drop_zero, List.cons_append, List.nil_append, Nat.reduceAdd] at hT
      simp only [List.take_succ_cons, List.take_zero, List.drop_succ_cons, List.drop_zero, AllS, Nat.reduceAdd]
      refine ⟨⟨?_, ?_, ?_, ?_, ?_, ?_, ?_, ?_, ?_, ?_, ?_, ?_, ?_, ?_, ?_, ?_, ?_, ?_, ?_, ?_, ?_, trivial⟩, ?_⟩
      --@STEPS r14
      · intro u W hx hd
        clear hd
        rw [hT u]
        obtain ⟨s0, s1, s2, s3, _, _, _, _⟩ := setC_cells (h7.ext hx)
        go_wp2
        exact stepQ_mk ⟨Ext.refl _, _, by (try rw [hT]); simp [updN], put_set rfl⟩
      · intro u W hx hd
        clear hd
        rw [hT u]
        obtain ⟨s0, s1, s2, s3, _, _, _, _⟩ := setC_cells (na.ext hx)
        go_wp2
        exact stepQ_mk ⟨Ext.refl _, _, by (try rw [hT]); simp [updN], put_set rfl⟩
      · intro u W hx hd
        have t0 := get_set (v := u 0) rfl (hd 0 (mem_of (by kernel_rfl)))
        have t1 := get_set (v := u 1) rfl (hd 1 (mem_of (by kernel_rfl)))
        clear hd
        rw [hT u, t0, t1]
        have hnq := neq_same
        go_wp2
        exact stepQ_mk ⟨Ext.refl _, _, by (try rw [hT]); simp [updN, t0, t1], put_one rfl⟩
      · intro u W hx hd
        have t2 := get_one (v := u 2) rfl (hd 2 (mem_of (by kernel_rfl)))
        clear hd
        rw [hT u, t2]
        go_wp2
        exact stepQ_mk ⟨Ext.refl _, _, by (try rw [hT]); simp [updN, t2], put_one rfl⟩
      · intro u W hx hd
        have t3 := get_one (v := u 3) rfl (hd 3 (mem_of (by kernel_rfl)))
        clear hd
        rw [hT u, t3]
        obtain ⟨s0, s1, s2, s3, _, _, _, _⟩ := setC_cells (na.ext hx)
        go_wp2
        exact stepQ_mk ⟨Ext.refl _, _, by (try rw [hT]); simp [updN, t3], put_set rfl⟩
      · intro u W hx hd
        have t4 := get_set (v := u 4) rfl (hd 4 (mem_of (by kernel_rfl)))
        have t3 := get_one (v := u 3) rfl (hd 3 (mem_of (by kernel_rfl)))
        clear hd
        rw [hT u, t4, t3]
        go_wp2_with (go_at_call 13; refine (not_o p _).mono ?_; rintro e W' ⟨rfl, hx'⟩)
        exact stepQ_mk ⟨hx', _, by (try rw [hT]); simp [updN, t4, t3], put_set rfl⟩
      · intro u W hx hd
        have t5 := get_set (v := u 5) rfl (hd 5 (mem_of (by kernel_rfl)))
        have t3 := get_one (v := u 3) rfl (hd 3 (mem_of (by kernel_rfl)))
        clear hd
        rw [hT u, t5, t3]
        go_wp2_with (go_at_call 13; refine (not_o2 p _).mono ?_; rintro e W' ⟨rfl, hx'⟩)
        exact stepQ_mk ⟨hx', _, by (try rw [hT]); simp [updN, t5, t3], put_set rfl⟩
      · intro u W hx hd
        have t3 := get_one (v := u 3) rfl (hd 3 (mem_of (by kernel_rfl)))
        clear hd
        rw [hT u, t3]
        obtain ⟨s0, s1, s2, s3, _, _, _, _⟩ := setC_cells (na.ext hx)
        go_wp2
        exact stepQ_mk ⟨Ext.refl _, _, by (try rw [hT]); simp [updN, t3], put_set rfl⟩
      · intro u W hx hd
        have t6 := get_set (v := u 6) rfl (hd 6 (mem_of (by kernel_rfl)))
        have t7 := get_set (v := u 7) rfl (hd 7 (mem_of (by kernel_rfl)))
        have t3 := get_one (v := u 3) rfl (hd 3 (mem_of (by kernel_rfl)))
        clear hd
        rw [hT u, t6, t7, t3]
        have hnq := neq_same
        go_wp2
        exact stepQ_mk ⟨Ext.refl _, _, by (try rw [hT]); simp [updN, t6, t7, t3], put_one rfl⟩
      · intro u W hx hd
        have t3 := get_one (v := u 3) rfl (hd 3 (mem_of (by kernel_rfl)))
        have t8 := get_one (v := u 8) rfl (hd 8 (mem_of (by kernel_rfl)))
        clear hd
        rw [hT u, t3, t8]
        go_wp2
        exact stepQ_mk ⟨Ext.refl _, _, by (try rw [hT]); simp [updN, t3, t8], put_one rfl⟩
      · intro u W hx hd
        have t9 := get_one (v := u 9) rfl (hd 9 (mem_of (by kernel_rfl)))
        clear hd
        rw [hT u, t9]
        go_wp2
        exact stepQ_mk ⟨Ext.refl _, _, by (try rw [hT]); simp [updN, t9], put_one rfl⟩
      · intro u W hx hd
        have t10 := get_one (v := u 10) rfl (hd 10 (mem_of (by kernel_rfl)))
        clear hd
        rw [hT u, t10]
        obtain ⟨s0, s1, s2, s3, _, _, _, _⟩ := setC_cells (na.ext hx)
        go_wp2
        exact stepQ_mk ⟨Ext.refl _, _, by (try rw [hT]); simp [updN, t10], put_set rfl⟩
      · intro u W hx hd
        have t10 := get_one (v := u 10) rfl (hd 10 (mem_of (by kernel_rfl)))
        clear hd
        rw [hT u, t10]
        obtain ⟨s0, s1, s2, s3, _, _, _, _⟩ := setC_cells (nb.ext hx)
        go_wp2
        exact stepQ_mk ⟨Ext.refl _, _, by (try rw [hT]); simp [updN, t10], put_set rfl⟩
      · intro u W hx hd
        have t11 := get_set (v := u 11) rfl (hd 11 (mem_of (by kernel_rfl)))
        have t12 := get_set (v := u 12) rfl (hd 12 (mem_of (by kernel_rfl)))
        have t10 := get_one (v := u 10) rfl (hd 10 (mem_of (by kernel_rfl)))
        clear hd
        rw [hT u, t11, t12, t10]
        go_wp2_with (go_at_call 12; refine (less_o p q _).mono ?_; rintro e W' ⟨rfl, hx'⟩)
        exact stepQ_mk ⟨hx', _, by (try rw [hT]); simp [updN, t11, t12, t10], put_set rfl⟩
      · intro u W hx hd
        have t10 := get_one (v := u 10) rfl (hd 10 (mem_of (by kernel_rfl)))
        clear hd
        rw [hT u, t10]
        obtain ⟨s0, s1, s2, s3, _, _, _, _⟩ := setC_cells (na.ext hx)
        go_wp2
        exact stepQ_mk ⟨Ext.refl _, _, by (try rw [hT]); simp [updN, t10], put_set rfl⟩
      · intro u W hx hd
        have t10 := get_one (v := u 10) rfl (hd 10 (mem_of (by kernel_rfl)))
        clear hd
        rw [hT u, t10]
        obtain ⟨s0, s1, s2, s3, _, _, _, _⟩ := setC_cells (nb.ext hx)
        go_wp2
        exact stepQ_mk ⟨Ext.refl _, _, by (try rw [hT]); simp [updN, t10], put_set rfl⟩
      · intro u W hx hd
        have t15 := get_set (v := u 15) rfl (hd 15 (mem_of (by kernel_rfl)))
        have t10 := get_one (v := u 10) rfl (hd 10 (mem_of (by kernel_rfl)))
        clear hd
        rw [hT u, t15, t10]
        go_wp2_with (go_at_call 13; refine (not_o q _).mono ?_; rintro e W' ⟨rfl, hx'⟩)
        exact stepQ_mk ⟨hx', _, by (try rw [hT]); simp [updN, t15, t10], put_set rfl⟩
      · intro u W hx hd
        have t14 := get_set (v := u 14) rfl (hd 14 (mem_of (by kernel_rfl)))
        have t16 := get_set (v := u 16) rfl (hd 16 (mem_of (by kernel_rfl)))
        have t10 := get_one (v := u 10) rfl (hd 10 (mem_of (by kernel_rfl)))
        clear hd
        rw [hT u, t14, t16, t10]
        go_wp2
        exact stepQ_mk ⟨(Ext.refl W).alloc _, _, by (try rw [hT]); simp [updN, t14, t16, t10], put_sl rfl (rds_two W _ _ _ 2)⟩
      · intro u W hx hd
        have t17 := get_sl (v := u 17) rfl (hd 17 (mem_of (by kernel_rfl)))
        have t10 := get_one (v := u 10) rfl (hd 10 (mem_of (by kernel_rfl)))
        clear hd
        rw [hT u, t10]
        go_wp2_with (go_at_call 11; refine (meet_o [p, fun b => !q b] _ _ t17 (by simp)).mono ?_; rintro e W' ⟨rfl, hx'⟩; rw [meetL_two])
        exact stepQ_mk ⟨hx', _, by (try rw [hT]); simp [updN, t10], put_set rfl⟩
      · intro u W hx hd
        have t13 := get_set (v := u 13) rfl (hd 13 (mem_of (by kernel_rfl)))
        have t18 := get_set (v := u 18) rfl (hd 18 (mem_of (by kernel_rfl)))
        have t10 := get_one (v := u 10) rfl (hd 10 (mem_of (by kernel_rfl)))
        clear hd
        rw [hT u, t13, t18, t10]
        have hnq := neq_same
        go_wp2
        exact stepQ_mk ⟨Ext.refl _, _, by (try rw [hT]); simp [updN, t13, t18, t10], put_one rfl⟩
      · intro u W hx hd
        have t10 := get_one (v := u 10) rfl (hd 10 (mem_of (by kernel_rfl)))
        have t19 := get_one (v := u 19) rfl (hd 19 (mem_of (by kernel_rfl)))
        clear hd
        rw [hT u, t10, t19]
        go_wp2
        exact stepQ_mk ⟨Ext.refl _, _, by (try rw [hT]); simp [updN, t10, t19], put_one rfl⟩
      --@END r14
      intro u W hx hp
      have gl := get_one (v := u 20) rfl (hp 20 (by omega))
      clear hp
      rw [hT u, gl]
      replace na := na.ext hx
      replace nb := nb.ext hx
      replace f4 := f4.trans hx
      clear hx gl hT
      go_upto_region 16 with fail
      refine wp_region_tags 80 24 [.set p, .set q, .sl [p, q], .set (fun b => p b || q b), .set (fun b => !(p b || q b)), .set p, .set (fun b => !p b), .set q, .set (fun b => !q b), .sl [fun b => !p b, fun b => !q b], .set (fun b => !(p b || q b)), .one (.bool false), .one (.bool false), .set p, .set q, .sl [p, q], .set (fun b => p b || q b), .set q, .set p, .set q, .sl [q, p, q], .set (fun b => p b || q b), .one (.bool false), .one (.bool false)] (by kernel_rfl) (by kernel_rfl) (by kernel_rfl) (by kernel_rfl) (by kernel_rfl) ?_
      intro T hT
      simp only [spliceT, r24, List.map_cons, List.map_nil, List.take_succ_cons, List.take_zero, List.drop_succ_cons, List.drop_zero, List.cons_append, List.nil_append, Nat.reduceAdd] at hT
      simp only [List.take_succ_cons, List.take_zero, List.drop_succ_cons, List.drop_zero, AllS, Nat.reduceAdd]
      refine ⟨⟨?_, ?_, ?_, ?_, ?_, ?_, ?_, ?_, ?_, ?_, ?_, ?_, ?_, ?_, ?_, ?_, ?_, ?_, ?_, ?_, ?_, ?_, ?_, ?_, trivial⟩, ?_⟩
      --@STEPS r16
      · intro u W hx hd
        clear hd
        rw [hT u]
        obtain ⟨s0, s1, s2, s3, _, _, _, _⟩ := setC_cells (na.ext hx)
        go_wp2
        exact stepQ_mk ⟨Ext.refl _, _, by (try rw [hT]); simp [updN], put_set rfl⟩
      · intro u W hx hd
        clear hd
        rw [hT u]
        obtain ⟨s0, s1, s2, s3, _, _, _, _⟩ := setC_cells (nb.ext hx)
        go_wp2
        exact stepQ_mk ⟨Ext.refl _, _, by (try rw [hT]); simp [updN], put_set rfl⟩
      · intro u W hx hd
        have t0 := get_set (v := u 0) rfl (hd 0 (mem_of (by kernel_rfl)))
        have t1 := get_set (v := u 1) rfl (hd 1 (mem_of (by kernel_rfl)))
        clear hd
        rw [hT u, t0, t1]
        go_wp2
        exact stepQ_mk ⟨(Ext.refl W).alloc _, _, by (try rw [hT]); simp [updN, t0, t1], put_sl rfl (rds_two W _ _ _ 2)⟩
      · intro u W hx hd
        have t2 := get_sl (v := u 2) rfl (hd 2 (mem_of (by kernel_rfl)))
        clear hd
        rw [hT u]
        go_wp2_with (go_at_call 10; refine (join_o [p, q] _ _ t2 (by simp)).mono ?_; rintro e W' ⟨rfl, hx'⟩; rw [joinL_two])
        exact stepQ_mk ⟨hx', _, by (try rw [hT]); simp [updN], put_set rfl⟩
      · intro u W hx hd
        have t3 := get_set (v := u 3) rfl (hd 3 (mem_of (by kernel_rfl)))
        clear hd
        rw [hT u, t3]
        go_wp2_with (go_at_call 13; refine (not_o (fun b => p b || q b) _).mono ?_; rintro e W' ⟨rfl, hx'⟩)
        exact stepQ_mk ⟨hx', _, by (try rw [hT]); simp [updN, t3], put_set rfl⟩
      · intro u W hx hd
        clear hd
        rw [hT u]
        obtain ⟨s0, s1, s2, s3, _, _, _, _⟩ := setC_cells (na.ext hx)
        go_wp2
        exact stepQ_mk ⟨Ext.refl _, _, by (try rw [hT]); simp [updN], put_set rfl⟩
      · intro u W hx hd
        have t5 := get_set (v := u 5) rfl (hd 5 (mem_of (by kernel_rfl)))
        clear hd
        rw [hT u, t5]
        go_wp2_with (go_at_call 13; refine (not_o p _).mono ?_; rintro e W' ⟨rfl, hx'⟩)
        exact stepQ_mk ⟨hx', _, by (try rw [hT]); simp [updN, t5], put_set rfl⟩
      · intro u W hx hd
        clear hd
        rw [hT u]
        obtain ⟨s0, s1, s2, s3, _, _, _, _⟩ := setC_cells (nb.ext hx)
        go_wp2
        exact stepQ_mk ⟨Ext.refl _, _, by (try rw [hT]); simp [updN], put_set rfl⟩
      · intro u W hx hd
        have t7 := get_set (v := u 7) rfl (hd 7 (mem_of (by kernel_rfl)))
        clear hd
        rw [hT u, t7]
        go_wp2_with (go_at_call 13; refine (not_o q _).mono ?_; rintro e W' ⟨rfl, hx'⟩)
        exact stepQ_mk ⟨hx', _, by (try rw [hT]); simp [updN, t7], put_set rfl⟩
      · intro u W hx hd
        have t6 := get_set (v := u 6) rfl (hd 6 (mem_of (by kernel_rfl)))
        have t8 := get_set (v := u 8) rfl (hd 8 (mem_of (by kernel_rfl)))
        clear hd
        rw [hT u, t6, t8]
        go_wp2
        exact stepQ_mk ⟨(Ext.refl W).alloc _, _, by (try rw [hT]); simp [updN, t6, t8], put_sl rfl (rds_two W _ _ _ 2)⟩
      · intro u W hx hd
        have t9 := get_sl (v := u 9) rfl (hd 9 (mem_of (by kernel_rfl)))
        clear hd
        rw [hT u]
        go_wp2_with (go_at_call 11; refine (meet_o [fun b => !p b, fun b => !q b] _ _ t9 (by simp)).mono ?_; rintro e W' ⟨rfl, hx'⟩; rw [meetL_nots])
        exact stepQ_mk ⟨hx', _, by (try rw [hT]); simp [updN], put_set rfl⟩
      · intro u W hx hd
        have t4 := get_set (v := u 4) rfl (hd 4 (mem_of (by kernel_rfl)))
        have t10 := get_set (v := u 10) rfl (hd 10 (mem_of (by kernel_rfl)))
        clear hd
        rw [hT u, t4, t10]
        have hnq := neq_same
        go_wp2
        exact stepQ_mk ⟨Ext.refl _, _, by (try rw [hT]); simp [updN, t4, t10], put_one rfl⟩
      · intro u W hx hd
        have t11 := get_one (v := u 11) rfl (hd 11 (mem_of (by kernel_rfl)))
        clear hd
        rw [hT u, t11]
        go_wp2
        exact stepQ_mk ⟨Ext.refl _, _, by (try rw [hT]); simp [updN, t11], put_one rfl⟩
      · intro u W hx hd
        have t12 := get_one (v := u 12) rfl (hd 12 (mem_of (by kernel_rfl)))
        clear hd
        rw [hT u, t12]
        obtain ⟨s0, s1, s2, s3, _, _, _, _⟩ := setC_cells (na.ext hx)
        go_wp2
        exact stepQ_mk ⟨Ext.refl _, _, by (try rw [hT]); simp [updN, t12], put_set rfl⟩
      · intro u W hx hd
        have t12 := get_one (v := u 12) rfl (hd 12 (mem_of (by kernel_rfl)))
        clear hd
        rw [hT u, t12]
        obtain ⟨s0, s1, s2, s3, _, _, _, _⟩ := setC_cells (nb.ext hx)
        go_wp2
        exact stepQ_mk ⟨Ext.refl _, _, by (try rw [hT]); simp [updN, t12], put_set rfl⟩
      · intro u W hx hd
        have t13 := get_set (v := u 13) rfl (hd 13 (mem_of (by kernel_rfl)))
        have t14 := get_set (v := u 14) rfl (hd 14 (mem_of (by kernel_rfl)))
        have t12 := get_one (v := u 12) rfl (hd 12 (mem_of (by kernel_rfl)))
        clear hd
        rw [hT u, t13, t14, t12]
        go_wp2
        exact stepQ_mk ⟨(Ext.refl W).alloc _, _, by (try rw [hT]); simp [updN, t13, t14, t12], put_sl rfl (rds_two W _ _ _ 2)⟩
      · intro u W hx hd
        have t15 := get_sl (v := u 15) rfl (hd 15 (mem_of (by kernel_rfl)))
        have t12 := get_one (v := u 12) rfl (hd 12 (mem_of (by kernel_rfl)))
        clear hd
        rw [hT u, t12]
        go_wp2_with (go_at_call 10; refine (join_o [p, q] _ _ t15 (by simp)).mono ?_; rintro e W' ⟨rfl, hx'⟩; rw [joinL_two])
        exact stepQ_mk ⟨hx', _, by (try rw [hT]); simp [updN, t12], put_set rfl⟩
      · intro u W hx hd
        have t12 := get_one (v := u 12) rfl (hd 12 (mem_of (by kernel_rfl)))
        clear hd
        rw [hT u, t12]
        obtain ⟨s0, s1, s2, s3, _, _, _, _⟩ := setC_cells (nb.ext hx)
        go_wp2
        exact stepQ_mk ⟨Ext.refl _, _, by (try rw [hT]); simp [updN, t12], put_set rfl⟩
      · intro u W hx hd
        have t12 := get_one (v := u 12) rfl (hd 12 (mem_of (by kernel_rfl)))
        clear hd
        rw [hT u, t12]
        obtain ⟨s0, s1, s2, s3, _, _, _, _⟩ := setC_cells (na.ext hx)
        go_wp2
        exact stepQ_mk ⟨Ext.refl _, _, by (try rw [hT]); simp [updN, t12], put_set rfl⟩
      · intro u W hx hd
        have t12 := get_one (v := u 12) rfl (hd 12 (mem_of (by kernel_rfl)))
        clear hd
        rw [hT u, t12]
        obtain ⟨s0, s1, s2, s3, _, _, _, _⟩ := setC_cells (nb.ext hx)
        go_wp2
        exact stepQ_mk ⟨Ext.refl _, _, by (try rw [hT]); simp [updN, t12], put_set rfl⟩
      · intro u W hx hd
        have t17 := get_set (v := u 17) rfl (hd 17 (mem_of (by kernel_rfl)))
        have t18 := get_set (v := u 18) rfl (hd 18 (mem_of (by kernel_rfl)))
        have t19 := get_set (v := u 19) rfl (hd 19 (mem_of (by kernel_rfl)))
        have t12 := get_one (v := u 12) rfl (hd 12 (mem_of (by kernel_rfl)))
        clear hd
        rw [hT u, t17, t18, t19, t12]
        go_wp2
        exact stepQ_mk ⟨(Ext.refl W).alloc _, _, by (try rw [hT]); simp [updN, t17, t18, t19, t12], put_sl rfl (rds_three W _ _ _ _ 3)⟩
      · intro u W hx hd
        have t20 := get_sl (v := u 20) rfl (hd 20 (mem_of (by kernel_rfl)))
        have t12 := get_one (v := u 12) rfl (hd 12 (mem_of (by kernel_rfl)))
        clear hd
        rw [hT u, t12]
        go_wp2_with (go_at_call 10; refine (join_o [q, p, q] _ _ t20 (by simp)).mono ?_; rintro e W' ⟨rfl, hx'⟩; rw [joinL_qpq])
        exact stepQ_mk ⟨hx', _, by (try rw [hT]); simp [updN, t12], put_set rfl⟩
      · intro u W hx hd
        have t16 := get_set (v := u 16) rfl (hd 16 (mem_of (by kernel_rfl)))
        have t21 := get_set (v := u 21) rfl (hd 21 (mem_of (by kernel_rfl)))
        have t12 := get_one (v := u 12) rfl (hd 12 (mem_of (by kernel_rfl)))
        clear hd
        rw [hT u, t16, t21, t12]
        have hnq := neq_same
        go_wp2
        exact stepQ_mk ⟨Ext.refl _, _, by (try rw [hT]); simp [updN, t16, t21, t12], put_one rfl⟩
      · intro u W hx hd
        have t12 := get_one (v := u 12) rfl (hd 12 (mem_of (by kernel_rfl)))
        have t22 := get_one (v := u 22) rfl (hd 22 (mem_of (by kernel_rfl)))
        clear hd
        rw [hT u, t12, t22]
        go_wp2
        exact stepQ_mk ⟨Ext.refl _, _, by (try rw [hT]); simp [updN, t12, t22], put_one rfl⟩
      --@END r16
      intro u W hx hp
      have gl := get_one (v := u 23) rfl (hp 23 (by omega))
      clear hp
      rw [hT u, gl]
      replace na := na.ext hx
      replace nb := nb.ext hx
      replace f4 := f4.trans hx
      clear hx gl hT
      have HCO := Lib.hid (fun W => count_o (fun b => p b || q b) W)
      have HCA := Lib.hid (fun W => count_o (fun b => p b && q b) W)
      have HCP := Lib.hid (fun W => count_o p W)
      have HCQ := Lib.hid (fun W => count_o q W)
      have HCN := Lib.hid (fun W => count_o (fun b => !p b) W)
      have e1 := cntB_or_and p q 256
      have e2 := cntB_not p 256
      have e3 := cntB_le (fun b => p b || q b) 256
      have e4 := cntB_le (fun b => p b && q b) 256
      have e5 := cntB_le p 256
      have e6 := cntB_le q 256
      generalize cntB (fun b => p b || q b) 256 = co at *
      generalize cntB (fun b => p b && q b) 256 = ca at *
      generalize cntB (fun b => !p b) 256 = cn at *
      generalize cntB p 256 = cp at *
      generalize cntB q 256 = cq at *
      have HE := Lib.hid (show (co : Int) + (ca : Int) = (cp : Int) + (cq : Int) ∧ (cn : Int) = 256 - (cp : Int) by omega)
      have w1 : IntKind.i64.wrap ((co : Int) + (ca : Int)) = (co : Int) + (ca : Int) := by rw [IntKind.wrap_i64]; omega
      have w2 : IntKind.i64.wrap ((cp : Int) + (cq : Int)) = (cp : Int) + (cq : Int) := by rw [IntKind.wrap_i64]; omega
      have w3 : IntKind.i64.wrap (256 - (cp : Int)) = 256 - (cp : Int) := by rw [IntKind.wrap_i64]; omega
      clear e1 e2 e3 e4 e5 e6 h7
      go_upto_region 18 with fail
      refine wp_region_tags 104 26 [.set p, .set q, .sl [p, q], .set (fun b => p b || q b), .one (.int .i64 (co : Int)), .set p, .set q, .sl [p, q], .set (fun b => p b && q b), .one (.int .i64 (ca : Int)), .one (.int .i64 ((co : Int) + (ca : Int))), .set p, .one (.int .i64 (cp : Int)), .set q, .one (.int .i64 (cq : Int)), .one (.int .i64 ((cp : Int) + (cq : Int))), .one (.bool true), .one (.bool true), .set p, .set (fun b => !p b), .one (.int .i64 (cn : Int)), .set p, .one (.int .i64 (cp : Int)), .one (.int .i64 (256 - (cp : Int))), .one (.bool true), .one (.bool true)] (by kernel_rfl) (by kernel_rfl) (by kernel_rfl) (by kernel_rfl) (by kernel_rfl) ?_
      intro T hT
      simp only [spliceT, r26, List.map_cons, List.map_nil, List.take_succ_cons, List.take_zero, List.drop_succ_cons, List.drop_zero, List.cons_append, List.nil_append, Nat.reduceAdd] at hT
      simp only [List.take_succ_cons, List.take_zero, List.drop_succ_cons, List.drop_zero, AllS, Nat.reduceAdd]
      refine ⟨⟨?_, ?_, ?_, ?_, ?_, ?_, ?_, ?_, ?_, ?_, ?_, ?_, ?_, ?_, ?_, ?_, ?_, ?_, ?_, ?_, ?_, ?_, ?_, ?_, ?_, ?_, trivial⟩, ?_⟩
      --@STEPS r18
      · intro u W hx hd
        clear hd
        rw [hT u]
        obtain ⟨s0, s1, s2, s3, _, _, _, _⟩ := setC_cells (na.ext hx)
        go_wp2
        exact stepQ_mk ⟨Ext.refl _, _, by (try rw [hT]); simp [updN], put_set rfl⟩
      · intro u W hx hd
        clear hd
        rw [hT u]
        obtain ⟨s0, s1, s2, s3, _, _, _, _⟩ := setC_cells (nb.ext hx)
        go_wp2
        exact stepQ_mk ⟨Ext.refl _, _, by (try rw [hT]); simp [updN], put_set rfl⟩
      · intro u W hx hd
        have t0 := get_set (v := u 0) rfl (hd 0 (mem_of (by kernel_rfl)))
        have t1 := get_set (v := u 1) rfl (hd 1 (mem_of (by kernel_rfl)))
        clear hd
        rw [hT u, t0, t1]
        go_wp2
        exact stepQ_mk ⟨(Ext.refl W).alloc _, _, by (try rw [hT]); simp [updN, t0, t1], put_sl rfl (rds_two W _ _ _ 2)⟩
      · intro u W hx hd
        have t2 := get_sl (v := u 2) rfl (hd 2 (mem_of (by kernel_rfl)))
        clear hd
        rw [hT u]
        go_wp2_with (go_at_call 10; refine (join_o [p, q] _ _ t2 (by simp)).mono ?_; rintro e W' ⟨rfl, hx'⟩; rw [joinL_two])
        exact stepQ_mk ⟨hx', _, by (try rw [hT]); simp [updN], put_set rfl⟩
      · intro u W hx hd
        have t3 := get_set (v := u 3) rfl (hd 3 (mem_of (by kernel_rfl)))
        clear hd
        rw [hT u, t3]
        go_wp2_with (go_at_call 18; refine (HCO.out _).mono ?_; rintro e W' ⟨rfl, hx'⟩)
        exact stepQ_mk ⟨hx', _, by (try rw [hT]); simp [updN, t3], put_one rfl⟩
      · intro u W hx hd
        clear hd
        rw [hT u]
        obtain ⟨s0, s1, s2, s3, _, _, _, _⟩ := setC_cells (na.ext hx)
        go_wp2
        exact stepQ_mk ⟨Ext.refl _, _, by (try rw [hT]); simp [updN], put_set rfl⟩
      · intro u W hx hd
        clear hd
        rw [hT u]
        obtain ⟨s0, s1, s2, s3, _, _, _, _⟩ := setC_cells (nb.ext hx)
        go_wp2
        exact stepQ_mk ⟨Ext.refl _, _, by (try rw [hT]); simp [updN], put_set rfl⟩
      · intro u W hx hd
        have t5 := get_set (v := u 5) rfl (hd 5 (mem_of (by kernel_rfl)))
        have t6 := get_set (v := u 6) rfl (hd 6 (mem_of (by kernel_rfl)))
        clear hd
        rw [hT u, t5, t6]
        go_wp2
        exact stepQ_mk ⟨(Ext.refl W).alloc _, _, by (try rw [hT]); simp [updN, t5, t6], put_sl rfl (rds_two W _ _ _ 2)⟩
      · intro u W hx hd
        have t7 := get_sl (v := u 7) rfl (hd 7 (mem_of (by kernel_rfl)))
        clear hd
        rw [hT u]
        go_wp2_with (go_at_call 11; refine (meet_o [p, q] _ _ t7 (by simp)).mono ?_; rintro e W' ⟨rfl, hx'⟩; rw [meetL_two])
        exact stepQ_mk ⟨hx', _, by (try rw [hT]); simp [updN], put_set rfl⟩
      · intro u W hx hd
        have t8 := get_set (v := u 8) rfl (hd 8 (mem_of (by kernel_rfl)))
        clear hd
        rw [hT u, t8]
        go_wp2_with (go_at_call 18; refine (HCA.out _).mono ?_; rintro e W' ⟨rfl, hx'⟩)
        exact stepQ_mk ⟨hx', _, by (try rw [hT]); simp [updN, t8], put_one rfl⟩
      · intro u W hx hd
        have t4 := get_one (v := u 4) rfl (hd 4 (mem_of (by kernel_rfl)))
        have t9 := get_one (v := u 9) rfl (hd 9 (mem_of (by kernel_rfl)))
        clear hd
        rw [hT u, t4, t9]
        go_wp2
        exact stepQ_mk ⟨Ext.refl _, _, by (try rw [hT]); simp [updN, t4, t9], put_one rfl⟩
      · intro u W hx hd
        clear hd
        rw [hT u]
        obtain ⟨s0, s1, s2, s3, _, _, _, _⟩ := setC_cells (na.ext hx)
        go_wp2
        exact stepQ_mk ⟨Ext.refl _, _, by (try rw [hT]); simp [updN], put_set rfl⟩
      · intro u W hx hd
        have t11 := get_set (v := u 11) rfl (hd 11 (mem_of (by kernel_rfl)))
        clear hd
        rw [hT u, t11]
        go_wp2_with (go_at_call 18; refine (HCP.out _).mono ?_; rintro e W' ⟨rfl, hx'⟩)
        exact stepQ_mk ⟨hx', _, by (try rw [hT]); simp [updN, t11], put_one rfl⟩
      · intro u W hx hd
        clear hd
        rw [hT u]
        obtain ⟨s0, s1, s2, s3, _, _, _, _⟩ := setC_cells (nb.ext hx)
        go_wp2
        exact stepQ_mk ⟨Ext.refl _, _, by (try rw [hT]); simp [updN], put_set rfl⟩
      · intro u W hx hd
        have t13 := get_set (v := u 13) rfl (hd 13 (mem_of (by kernel_rfl)))
        clear hd
        rw [hT u, t13]
        go_wp2_with (go_at_call 18; refine (HCQ.out _).mono ?_; rintro e W' ⟨rfl, hx'⟩)
        exact stepQ_mk ⟨hx', _, by (try rw [hT]); simp [updN, t13], put_one rfl⟩
      · intro u W hx hd
        have t12 := get_one (v := u 12) rfl (hd 12 (mem_of (by kernel_rfl)))
        have t14 := get_one (v := u 14) rfl (hd 14 (mem_of (by kernel_rfl)))
        clear hd
        rw [hT u, t12, t14]
        go_wp2
        exact stepQ_mk ⟨Ext.refl _, _, by (try rw [hT]); simp [updN, t12, t14], put_one rfl⟩
      · intro u W hx hd
        have t10 := get_one (v := u 10) rfl (hd 10 (mem_of (by kernel_rfl)))
        have t15 := get_one (v := u 15) rfl (hd 15 (mem_of (by kernel_rfl)))
        clear hd
        rw [hT u, t10, t15]
        have e1 := HE.out.1
        go_wp2
        exact stepQ_mk ⟨Ext.refl _, _, by (try rw [hT]); simp [updN, t10, t15], put_one rfl⟩
      · intro u W hx hd
        have t16 := get_one (v := u 16) rfl (hd 16 (mem_of (by kernel_rfl)))
        clear hd
        rw [hT u, t16]
        go_wp2
        exact stepQ_mk ⟨Ext.refl _, _, by (try rw [hT]); simp [updN, t16], put_one rfl⟩
      · intro u W hx hd
        have t17 := get_one (v := u 17) rfl (hd 17 (mem_of (by kernel_rfl)))
        clear hd
        rw [hT u, t17]
        obtain ⟨s0, s1, s2, s3, _, _, _, _⟩ := setC_cells (na.ext hx)
        go_wp2
        exact stepQ_mk ⟨Ext.refl _, _, by (try rw [hT]); simp [updN, t17], put_set rfl⟩
      · intro u W hx hd
        have t18 := get_set (v := u 18) rfl (hd 18 (mem_of (by kernel_rfl)))
        have t17 := get_one (v := u 17) rfl (hd 17 (mem_of (by kernel_rfl)))
        clear hd
        rw [hT u, t18, t17]
        go_wp2_with (go_at_call 13; refine (not_o p _).mono ?_; rintro e W' ⟨rfl, hx'⟩)
        exact stepQ_mk ⟨hx', _, by (try rw [hT]); simp [updN, t18, t17], put_set rfl⟩
      · intro u W hx hd
        have t19 := get_set (v := u 19) rfl (hd 19 (mem_of (by kernel_rfl)))
        have t17 := get_one (v := u 17) rfl (hd 17 (mem_of (by kernel_rfl)))
        clear hd
        rw [hT u, t19, t17]
        go_wp2_with (go_at_call 18; refine (HCN.out _).mono ?_; rintro e W' ⟨rfl, hx'⟩)
        exact stepQ_mk ⟨hx', _, by (try rw [hT]); simp [updN, t19, t17], put_one rfl⟩
      · intro u W hx hd
        have t17 := get_one (v := u 17) rfl (hd 17 (mem_of (by kernel_rfl)))
        clear hd
        rw [hT u, t17]
        obtain ⟨s0, s1, s2, s3, _, _, _, _⟩ := setC_cells (na.ext hx)
        go_wp2
        exact stepQ_mk ⟨Ext.refl _, _, by (try rw [hT]); simp [updN, t17], put_set rfl⟩
      · intro u W hx hd
        have t21 := get_set (v := u 21) rfl (hd 21 (mem_of (by kernel_rfl)))
        have t17 := get_one (v := u 17) rfl (hd 17 (mem_of (by kernel_rfl)))
        clear hd
        rw [hT u, t21, t17]
        go_wp2_with (go_at_call 18; refine (HCP.out _).mono ?_; rintro e W' ⟨rfl, hx'⟩)
        exact stepQ_mk ⟨hx', _, by (try rw [hT]); simp [updN, t21, t17], put_one rfl⟩
      · intro u W hx hd
        have t22 := get_one (v := u 22) rfl (hd 22 (mem_of (by kernel_rfl)))
        have t17 := get_one (v := u 17) rfl (hd 17 (mem_of (by kernel_rfl)))
        clear hd
        rw [hT u, t22, t17]
        go_wp2
        exact stepQ_mk ⟨Ext.refl _, _, by (try rw [hT]); simp [updN, t22, t17], put_one rfl⟩
      · intro u W hx hd
        have t20 := get_one (v := u 20) rfl (hd 20 (mem_of (by kernel_rfl)))
        have t23 := get_one (v := u 23) rfl (hd 23 (mem_of (by kernel_rfl)))
        have t17 := get_one (v := u 17) rfl (hd 17 (mem_of (by kernel_rfl)))
        clear hd
        rw [hT u, t20, t23, t17]
        have e2 := HE.out.2
        go_wp2
        exact stepQ_mk ⟨Ext.refl _, _, by (try rw [hT]); simp [updN, t20, t23, t17], put_one rfl⟩
      · intro u W hx hd
        have t17 := get_one (v := u 17) rfl (hd 17 (mem_of (by kernel_rfl)))
        have t24 := get_one (v := u 24) rfl (hd 24 (mem_of (by kernel_rfl)))
        clear hd
        rw [hT u, t17, t24]
        go_wp2
        exact stepQ_mk ⟨Ext.refl _, _, by (try rw [hT]); simp [updN, t17, t24], put_one rfl⟩
      --@END r18
      intro u W hx hp
      have gl := get_one (v := u 25) rfl (hp 25 (by omega))
      clear hp
      rw [hT u, gl]
      replace na := na.ext hx
      replace nb := nb.ext hx
      replace f4 := f4.trans hx
      clear hx gl hT
      go_wp2
      go_ret
      exact ⟨rfl, f4⟩

end Go.Proofs.Ytfgocamajfipmaa
