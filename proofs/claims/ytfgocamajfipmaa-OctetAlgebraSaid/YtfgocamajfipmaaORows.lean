/- The law OctetRows as a walk. No condition. -/
import Derived.Laws.EntriesVeiled
import Derived.Test.YtfgocamajfipmaaRange
import Derived.Test.YtfgocamajfipmaaORowB
import Derived.Test.YtfgocamajfipmaaOLives
import Derived.Test.YtfgocamajfipmaaTail
namespace Go.Proofs.Ytfgocamajfipmaa
open Go.RowKit Go.Shelf
attribute [local go_sem] Oper.semAt_some

theorem rows_o (p : Nat → Bool) (most : Int) (w : World) :
    Calls Try.prog 15 #[.agg #[.int .u64 (wd p 0 : Int), .int .u64 (wd p 1 : Int), .int .u64 (wd p 2 : Int), .int .u64 (wd p 3 : Int)], .int .i64 most] w fun r w' => ∃ ad cap, r = .returned (.tuple #[.slice ad (cutR (rowsTo p 256) most).length cap, .bool true]) ∧ OwnR w' w.heap.size (.slice ad (cutR (rowsTo p 256) most).length cap) (cutR (rowsTo p 256) most) ∧ Ext w w' :=
  (rows_any p most w).mono fun e W h => by
    obtain ⟨v, h1, h2, h3⟩ := h
    obtain ⟨ad, cap, rfl⟩ := h2.shape
    exact ⟨ad, cap, h1, h2, h3⟩
theorem rRows_o (p : Nat → Bool) (w : World) :
    Calls Try.prog 14 #[.agg #[.int .u64 (wd p 0 : Int), .int .u64 (wd p 1 : Int), .int .u64 (wd p 2 : Int), .int .u64 (wd p 3 : Int)]] w fun r w' => ∃ ad cap, r = .returned (.slice ad (rowsTo p 256).length cap) ∧ OwnR w' w.heap.size (.slice ad (rowsTo p 256).length cap) (rowsTo p 256) ∧ Ext w w' :=
  (rRows_any p w).mono fun e W h => by
    obtain ⟨v, h1, h2, h3⟩ := h
    obtain ⟨ad, cap, rfl⟩ := h2.shape
    exact ⟨ad, cap, h1, h2, h3⟩
theorem cutR_neg (R : List (Nat × Nat)) : cutR R (-1) = R := if_neg (by omega)

theorem Ext.of_below0 {w w' : World} {B : Nat} (h : Ext w w') (hB : B ≤ w.heap.size) : Below B w w' := Below.mono h hB
/-- The iterator's contract, with the rows named. -/
def SeqOf (p : Nat → Bool) (R : List (Nat × Nat)) : Prop := ∀ (n : Nat), 1 ≤ n → ∀ (Bs n₀ : Nat) (w : World), Bs < n₀ → Blk w Bs 25 (setC p) →
  SeqStopsK Fence.wide n Try.prog 23 #[.pointer (some ⟨Bs, 0, none⟩)] (fun x : Nat × Nat => #[Value.int .u8 (x.1 : Int), Value.int .u8 (x.2 : Int)]) (Below n₀) (fun ys => ys = R) (fun pre => pre <+: R) R.length w

set_option maxRecDepth 100000 in
set_option maxHeartbeats 8000000 in
theorem octetRows_walk (p : Nat → Bool) (stop : Int) (w : World) :
    Calls Try.prog 4 #[setV p, .int .i64 stop] w fun r w' => r = .returned (.bool true) ∧ Ext w w' := by
  have HL := Lib.hid (fun W => octetLives_any W)
  have HRR := Lib.hid (fun W => rRows_o p W)
  have HRW := Lib.hid (fun m W => rows_o p m W)
  have HRM := Lib.hid (fun W => rows_made p W)
  have hNN := rowsTo_len p 256
  unfold setV u64v
  refine (callsIn_wide (n := 9)).1 ?_
  refine callsIn_of_wp_marks Try.func4 rfl trivial ?_ rfl
  simp only [Try.ntmps4, List.size_toArray, List.length_cons, List.length_nil, Nat.reduceAdd, Nat.reduceSub, Array.replicate_succ, Array.replicate_zero, List.push_toArray, List.append_toArray, List.nil_append, List.cons_append]
  refine wpIn_wide.2 ?_
  go_upto_region 1 with fail
  have n2 : Blk (w.alloc (.cells (setC p) 25)) w.heap.size 25 (setC p) := Blk.new w _ _
  have f2 := (Ext.refl w).alloc (.cells (setC p) 25)
  have z2 := World.size_alloc w (.cells (setC p) 25)
  change Code.wp Try.prog _ _ _ ((w.alloc (.cells (setC p) 25)).alloc _)
  generalize w.alloc (.cells (setC p) 25) = w2 at *
  have n4 := Boxed.new w2 4 (.bool false)
  have f4 := f2.alloc (.cells #[.bool false] 4)
  replace n2 := n2.alloc (.cells #[.bool false] 4)
  have z4 := World.size_alloc w2 (.cells #[.bool false] 4)
  generalize w2.alloc (.cells #[.bool false] 4) = w4 at *
  rw [← z2]
  have y4 : w.heap.size < w2.heap.size := by omega
  have y5 : w2.heap.size < w4.heap.size := by omega
  clear z2 z4 f2
  generalize w2.heap.size = b4 at *
  go_upto_region 3 with (go_at_call 6; refine (HL.out _).mono ?_; rintro e w5 ⟨rfl, hx5⟩)
  have n4 : Blk w4 b4 4 #[.bool false] := n4
  replace n2 := n2.ext hx5
  replace n4 := n4.ext hx5
  replace f4 := f4.trans hx5
  replace y5 := Nat.lt_of_lt_of_le y5 hx5.size
  clear hx5 HL
  obtain ⟨s0, s1, s2, s3, _, _, _, _⟩ := setC_cells n2
  go_upto_region 4 with (go_at_call 14; refine (HRR.out _).mono ?_; rintro e w6 ⟨A6, C6, rfl, own6, hx6⟩)
  clear s0 s1 s2 s3
  replace n2 := n2.ext hx6
  replace n4 := n4.ext hx6
  replace f4 := f4.trans hx6
  replace y5 := Nat.lt_of_lt_of_le y5 hx6.size
  clear hx6 HRR
  have n5 : Blk (w6.alloc (.cells #[.slice A6 (rowsTo p 256).length C6] 31)) w6.heap.size 31 #[.slice A6 (rowsTo p 256).length C6] := Blk.new w6 _ _
  have hx7 : Ext w6 (w6.alloc (.cells #[.slice A6 (rowsTo p 256).length C6] 31)) := (Ext.refl w6).alloc _
  generalize w6.alloc (.cells #[.slice A6 (rowsTo p 256).length C6] 31) = w7 at *
  replace n2 := n2.ext hx7
  replace n4 := n4.ext hx7
  replace f4 := f4.trans hx7
  replace own6 := own6.ext hx7
  clear hx7
  generalize w6.heap.size = b5 at *
  obtain ⟨s0, s1, s2, s3, _, _, _, _⟩ := setC_cells n2
  have HM1 := Lib.hid (cutR_neg (rowsTo p 256))
  go_upto_region 5 with (go_at_call 15; refine (HRW.out (-1) _).mono ?_; rintro e w8 ⟨A8, C8, rfl, own8, hx8⟩; rw [HM1.out] at own8 ⊢)
  clear s0 s1 s2 s3 HM1
  replace n2 := n2.ext hx8
  replace n4 := n4.ext hx8
  replace n5 := n5.ext hx8
  replace f4 := f4.trans hx8
  replace own6 := own6.ext hx8
  clear hx8
  obtain ⟨s0, s1, s2, s3, _, _, _, _⟩ := setC_cells n2
  go_upto_region 6 with (go_at_call 15; refine (HRW.out stop _).mono ?_; rintro e w9 ⟨A9, C9, rfl, _, hx9⟩)
  clear s0 s1 s2 s3 HRW
  replace n2 := n2.ext hx9
  replace n4 := n4.ext hx9
  replace n5 := n5.ext hx9
  replace f4 := f4.trans hx9
  replace own6 := own6.ext hx9
  replace own8 := own8.ext hx9
  clear hx9
  have c5 := n5.cell 0
  simp only [List.getElem?_toArray, List.getElem?_cons_zero] at c5
  have hMM := Lib.hid (show (cutR (rowsTo p 256) stop).length = if 1 ≤ stop ∧ stop ≤ ((rowsTo p 256).length : Int) then stop.toNat else (rowsTo p 256).length by
    unfold cutR
    split
    · rw [List.length_take]; omega
    · rfl)
  go_upto_region 8 with fail
  have hST : SeqOf p (rowsTo p 256) := fun n hn Bs n₀ w hb hBs => rows_stops n hn Bs n₀ p w hb hBs
  generalize rowsTo p 256 = R at *
  have HST := Lib.hid hST
  clear hST
  go_upto_region 9 with fail
  go_loopw [10, 45] (fun _ i wr => ∃ k : Nat, k ≤ R.length ∧ i = .int .i64 k ∧ Ext w9 wr) (fun _ i _ => R.length - (intOf i).toNat)
  case atStart => exact ⟨0, Nat.zero_le _, rfl, Ext.refl _⟩
  case round =>
    obtain ⟨k, hk, rfl, hX⟩ := hrel
    by_cases hlt : k < R.length
    · obtain ⟨g6, cap6, e6, _, a6, b6⟩ := own6.cells k hlt
      obtain ⟨g8, cap8, e8, _, a8, b8⟩ := own8.cells k hlt
      simp only [Value.slice.injEq] at e6 e8
      obtain ⟨rfl, _, rfl⟩ := e6
      obtain ⟨rfl, _, rfl⟩ := e8
      replace c5 := hX.cell c5
      replace a6 := hX.cell a6
      replace b6 := hX.cell b6
      replace a8 := hX.cell a8
      replace b8 := hX.cell b8
      have d5 : (k : Int) < (R.length : Int) := by omega
      generalize (R.getD k (0, 0)).1 = lo at *
      generalize (R.getD k (0, 0)).2 = hi at *
      clear own6 own8 n2 n4 n5 hMM HST HRM
      go_upto_region 11 with fail
      go_region
      go_wp2
      go_roundw
      case rel => exact ⟨k + 1, by omega, by go_num, hX.drew⟩
      case measure => simp [intOf]; omega
    · clear own8
      replace n2 := n2.ext hX
      replace n4 := n4.ext hX
      replace n5 := n5.ext hX
      replace f4 := f4.trans hX
      replace own6 := own6.ext hX
      replace c5 := hX.cell c5
      clear hX
      have hM := hMM.out
      clear hMM
      generalize (cutR R stop).length = M at *
      have hcase : (stop < 1 ∧ M = R.length) ∨ (1 ≤ stop ∧ (R.length : Int) < stop ∧ M = R.length) ∨ (stop = (M : Int) ∧ 1 ≤ (M : Int) ∧ (M : Int) ≤ (R.length : Int)) := by
        split at hM
        · exact .inr (.inr (by omega))
        · by_cases h : stop < 1
          · exact .inl ⟨h, hM⟩
          · exact .inr (.inl ⟨by omega, by omega, hM⟩)
      clear hM
      obtain ⟨s0, s1, s2, s3, _, _, _, _⟩ := setC_cells n2
      rcases hcase with ⟨d1, rfl⟩ | ⟨d1, d2, rfl⟩ | ⟨rfl, d1, d2⟩
      all_goals
        go_upto_region 18 with fail
        go_upto_region 19 with (go_at_call 16; refine (HRM.out _).mono ?_; rintro e w10 ⟨rfl, rfl⟩)
        clear s0 s1 s2 s3 hk hlt
        change Code.wp Try.prog _ _ _ ((wr.alloc (.cells (setC p) 25)).alloc _)
        have nR : Blk (wr.alloc (.cells (setC p) 25)) wr.heap.size 25 (setC p) := Blk.new wr _ _
        have hxa : Ext wr (wr.alloc (.cells (setC p) 25)) := (Ext.refl wr).alloc _
        have za := World.size_alloc wr (.cells (setC p) 25)
        generalize wr.alloc (.cells (setC p) 25) = wa at *
        rw [← za]
        have n11 : Blk (wa.alloc (.cells #[.func (.func 23) #[] #[.pointer (some ⟨wr.heap.size, 0, none⟩)]] 38)) wa.heap.size 38 #[.func (.func 23) #[] #[.pointer (some ⟨wr.heap.size, 0, none⟩)]] := Blk.new wa _ _
        have hxb : Ext wa (wa.alloc (.cells #[.func (.func 23) #[] #[.pointer (some ⟨wr.heap.size, 0, none⟩)]] 38)) := (Ext.refl wa).alloc _
        have zb := World.size_alloc wa (.cells #[.func (.func 23) #[] #[.pointer (some ⟨wr.heap.size, 0, none⟩)]] 38)
        generalize wa.alloc (.cells #[.func (.func 23) #[] #[.pointer (some ⟨wr.heap.size, 0, none⟩)]] 38) = wb at *
        have hb5 : b5 < wr.heap.size := n5.lt
        have hb4 : b4 < wr.heap.size := n4.lt
        have hra : wr.heap.size < wa.heap.size := by omega
        have hab : wa.heap.size < wb.heap.size := by omega
        clear za zb
        have hown : ∀ i, (Value.slice A6 R.length C6).ownBlock = some i → i < wr.heap.size := fun i hi => by
          obtain ⟨_, cu, hcu⟩ := own6.blk i hi
          exact hcu.lt
        replace nR := nR.ext hxb
        have hxr := hxa.trans hxb
        replace n4 := n4.ext hxr
        replace n5 := n5.ext hxr
        replace f4 := f4.trans hxr
        replace own6 := own6.ext hxr
        clear n2 c5 hxa hxb hxr HRM
        have hsz := f4.size
        generalize wr.heap.size = bR at *
        generalize wa.heap.size = b11 at *
        go_upto_region 20 with fail
        have n12 := Boxed.new wb 3 (.int .i64 0)
        have hxc : Ext wb (wb.alloc (.cells #[.int .i64 0] 3)) := (Ext.refl wb).alloc _
        have zc := World.size_alloc wb (.cells #[.int .i64 0] 3)
        generalize wb.alloc (.cells #[.int .i64 0] 3) = W0 at *
        have hz0 : wb.heap.size < W0.heap.size := by omega
        clear zc
        replace nR := nR.ext hxc
        replace n4 := n4.ext hxc
        replace n5 := n5.ext hxc
        replace n11 := n11.ext hxc
        replace f4 := f4.trans hxc
        replace own6 := own6.ext hxc
        clear hxc
        generalize wb.heap.size = b12 at *
        have c11 := n11.cell 0
        simp only [List.getElem?_toArray, List.getElem?_cons_zero] at c11
        refine (wpIn_wide (n := 9)).1 ?_
        gi_wp2
        refine (wpIn_wide (n := 9)).1 ?_
        gi_wp2
        have hseq := HST.out 8 (by omega) bR b12 W0 (by omega) nR
        refine wpIn_range_outer rfl (by omega) (gf := 23) (lb := #[.pointer (some ⟨bR, 0, none⟩)]) rfl trivial (enters_of Try.func23 (by kernel_rfl) rfl)
          hseq (by omega) (Below.refl _ _) ?_
          (fun (pre : List (Nat × Nat)) W => (Boxed W b12 3 (.int .i64 (pre.length : Int)) ∧ pre.length < 3) ∧ Below b12 W0 W)
          (fun c (pre : List (Nat × Nat)) W => (c = .exit 2 ∧ pre.length = 3 ∧ Boxed W b12 3 (.int .i64 3) ∧ Below b12 W0 W) ∨ (c = .ret ∧ ∃ (l : List (Nat × Nat)) (x : Nat × Nat), pre = l ++ [x] ∧ x.1 ≠ (R.getD l.length (0, 0)).1))
          (fun s A B row hs hg hr => ⟨⟨Boxed.noC hs.1.1 (keeps_noC hg hr), hs.1.2⟩, ownFrom_below (β := Unit) (by omega) (by omega) () A B row hs.2 hg hr⟩)
          (fun c s A B row hs hg hr => by
            rcases hs with ⟨h1, h2, h3, h4⟩ | h
            · exact .inl ⟨h1, h2, Boxed.noC h3 (keeps_noC hg hr), ownFrom_below (β := Unit) (by omega) (by omega) () A B row h4 hg hr⟩
            · exact .inr h)
          ⟨⟨n12, by decide⟩, Below.refl _ _⟩
          ?_ ?_ ?_
        · intro x; rfl
        · intro l x W K hK
          have HK := Lib.hid hK
          clear hK
          gi_wp2
          refine HK.out _ ?_
          clear HK K W l
          rintro l pre W hl ⟨r, hr⟩ ⟨⟨g12, hlen⟩, hB⟩ hlt
          have g11 := hB.cell (p := ⟨b11, 0, none⟩) hab
          rw [c11] at g11
          have k12 := g12.lt
          have g14 := Boxed.new W 3 (.int .i64 0)
          have hxW : Ext W (W.alloc (.cells #[.int .i64 0] 3)) := (Ext.refl W).alloc _
          have g11' := hxW.cell g11
          have g12' := g12.alloc (.cells #[.int .i64 0] 3)
          have hr' : (W.alloc (.cells #[.int .i64 0] 3)).heap[l]? = some (.loop r) := (Below.heap_alloc W _ l (Array.getElem?_eq_some_iff.1 hr).1).trans hr
          have hKW := (KeepsOthers.alloc W (.cells #[.int .i64 0] 3)).from W0.heap.size
          have zW := World.size_alloc W (.cells #[.int .i64 0] 3)
          gi_wp2
          have nR1 := (nR.below hB (by omega)).ext hxW
          have hBW := hxW.of_below0 (B := b12) (by omega)
          clear g11 g12 n12 hxW c11 hseq
          generalize W.alloc (.cells #[.int .i64 0] 3) = W1 at *
          have k14 : W.heap.size < W1.heap.size := by omega
          clear zW
          have hsq := (HST.out 6 (by omega) bR b12 W1 (by omega) nR1).inRound l
          refine wpIn_range_inner (l₀ := l) (r₀ := r) rfl hr' (by omega) (gf := 23) (lb := #[.pointer (some ⟨bR, 0, none⟩)]) rfl trivial (enters_of Try.func23 (by kernel_rfl) rfl)
            hsq (by omega) (Below.refl _ _) ?_
            (fun (qre : List (Nat × Nat)) W' => (Boxed W' W.heap.size 3 (.int .i64 (qre.length : Int)) ∧ Boxed W' b12 3 (.int .i64 (pre.length : Int))) ∧ (Below b12 W W' ∧ KeepsFrom W0.heap.size W W'))
            (fun _ _ _ => False)
            (fun s A B row hs hg hr => ⟨⟨Boxed.noC hs.1.1 (keeps_noC hg hr), Boxed.noC hs.1.2 (keeps_noC hg hr)⟩, ownFrom_below (β := Unit) (by omega) (by omega) () A B row hs.2.1 hg hr, ownFrom_keepsFrom (β := Unit) (by omega) () A B row hs.2.2 hg hr⟩)
            (fun _ _ _ _ _ hs _ _ => hs)
            ⟨⟨g14, g12'⟩, hBW, hKW⟩
            ?_ ?_ ?_
          · intro x; rfl
          · intro l x W K hK
            have HK := Lib.hid hK
            clear hK
            gi_wp2
            refine HK.out _ ?_
            clear HK K W l
            rintro l2 qre W2 hl2 - ⟨⟨i14, i12⟩, iB, iK⟩ hq
            have e14 := i14.cell
            have e14f := i14.frozen
            have qw : IntKind.i64.wrap ((qre.length : Int) + 1) = ((qre.length + 1 : Nat) : Int) := by rw [IntKind.wrap_i64]; omega
            gi_wp2
            have hl1 : ((qre ++ [x]).length : Int) = (qre.length : Int) + 1 := by simp
            exact ⟨(KeepsOthers.setCell _ _ _).from _, (Below.refl _ W2).setCell (p := ⟨W.heap.size, 0, none⟩) (Nat.le_of_lt k12) _,
              ⟨⟨by rw [hl1]; exact i14.set _, i12.other (by omega) _⟩, iB.setCell (p := ⟨W.heap.size, 0, none⟩) (Nat.le_of_lt k12) _, iK.trans ((KeepsOthers.setCell _ _ _).from _)⟩⟩
          · rintro qs W2 rfl ⟨⟨i14, i12⟩, iB, iK⟩
            have e14 := i14.cell
            have e12 := i12.cell
            have e12f := i12.frozen
            have hB2 := hB.trans iB
            have m5 := n5.below hB2 (by omega)
            have e5 := m5.cell 0
            simp only [List.getElem?_toArray, List.getElem?_cons_zero] at e5
            obtain ⟨g6, cap6, e6, hg6, a6, b6⟩ := own6.cells pre.length hlt
            simp only [Value.slice.injEq] at e6
            obtain ⟨rfl, _, rfl⟩ := e6
            have hg := hown g6 rfl
            have a6' := (hB2.cell (p := ⟨g6, pre.length * 2, none⟩) (by simp; omega)).trans a6
            have dl : (pre.length : Int) < (qs.length : Int) := by omega
            have m4 := n4.below hB2 (by omega)
            have e4 := m4.cell 0
            have e4f := m4.frozen 0
            simp only [List.getElem?_toArray, List.getElem?_cons_zero] at e4
            have hl1 : ((pre ++ [x]).length : Int) = (pre.length : Int) + 1 := by simp
            have HF := Lib.hid (⟨i12, iB, iK, hB2⟩ : _ ∧ _ ∧ _ ∧ _)
            clear n4 n5 n11 nR nR1 own6 hB i14 i12 iB iK hB2 m4 m5 g14 g11' g12' hr' hKW hBW hsq HST f4 a6 b6 hown hr
            obtain ⟨lo, hlo⟩ : ∃ lo, (qs.getD pre.length (0, 0)).1 = lo := ⟨_, rfl⟩
            have HLO := Lib.hid hlo
            rw [hlo] at a6'
            clear hlo
            by_cases hx : (x.1 : Int) = (lo : Int)
            · by_cases h3 : pre.length = 2
              · have h3' : (pre.length : Int) + 1 = 3 := by omega
                have H3 := Lib.hid h3
                clear h3
                gi_wp2
                obtain ⟨i12, iB, iK, hB2⟩ := HF.out
                exact ⟨iK.trans ((KeepsOthers.setCell _ _ _).from _), .inl ⟨rfl, by rw [List.length_append, H3.out]; rfl, i12.set _, hB2.setCell (p := ⟨b12, 0, none⟩) (Nat.le_refl _) _⟩⟩
              · have h3' : ¬ (pre.length : Int) + 1 = 3 := by omega
                gi_wp2
                obtain ⟨i12, iB, iK, hB2⟩ := HF.out
                exact ⟨iK.trans ((KeepsOthers.setCell _ _ _).from _), iB.setCell (p := ⟨b12, 0, none⟩) (Nat.le_refl _) _, ⟨⟨by rw [hl1]; exact i12.set _, by simp; omega⟩, hB2.setCell (p := ⟨b12, 0, none⟩) (Nat.le_refl _) _⟩⟩
            · gi_wp2
              obtain ⟨i12, iB, iK, hB2⟩ := HF.out
              exact ⟨iK.trans ((KeepsOthers.setCell _ _ _).from _), .inr ⟨rfl, pre, x, rfl, by rw [HLO.out]; omega⟩⟩
          · rintro c qs W2 _ h
            exact h.elim
        · rintro D xs W hD rfl ⟨⟨g12, hlen⟩, hB⟩ hK
          have e12 := g12.cell
          have m5 := n5.below hB (by omega)
          have e5 := m5.cell 0
          have m4 := n4.below hB (by omega)
          have e4 := m4.cell 0
          have e4f := m4.frozen 0
          simp only [List.getElem?_toArray, List.getElem?_cons_zero] at e4 e5
          have HF := Lib.hid (⟨m4, hB, hK, f4⟩ : _ ∧ _ ∧ _ ∧ _)
          clear n4 n5 n11 n12 nR own6 hB g12 m4 m5 HST hseq f4 hK c11 hown
          have hmin : min (3 : Int) (xs.length : Int) = (xs.length : Int) := by omega
          gi_wp2
          go_wp2
          obtain ⟨m4, hB, hK, f4⟩ := HF.out
          have hK2 := (KeepsOthers.setCell W ⟨b4, 0, none⟩ (.bool true)).same D _ hK rfl
          have hx2 := (f4.of_below hB hsz).setCell (p := ⟨b4, 0, none⟩) (Nat.le_of_lt y4) (.bool true)
          have h2 := Boxed.cell (Boxed.kept (Boxed.set (.bool true) m4) (grownBy_putObj' _ D (.deferred none)) (by simp; omega))
          refine ⟨by simp, .inl ⟨_, _, rfl, run_takeDeferred hK2, ?_⟩⟩
          refine ⟨.bool true, ?_, rfl, Below.trans hx2 (belowK_b (w := w) (Nat.le_refl _) _ D _ _ (by omega) hK2 rfl rfl)⟩
          simp [results, Try.f4, go_sem, h2]
        · rintro D c pre W hD hSp hcs hK
          rcases hcs with ⟨rfl, hl3, g12, hB⟩ | ⟨rfl, l, x, rfl, hne⟩
          rotate_left
          · exfalso
            obtain ⟨t, ht⟩ := hSp
            apply hne
            rw [← ht]
            simp
          have hll := hSp.length_le
          clear hSp
          have e12 := g12.cell
          have m5 := n5.below hB (by omega)
          have e5 := m5.cell 0
          have m4 := n4.below hB (by omega)
          have e4 := m4.cell 0
          have e4f := m4.frozen 0
          simp only [List.getElem?_toArray, List.getElem?_cons_zero] at e4 e5
          have HF := Lib.hid (⟨m4, hB, hK, f4⟩ : _ ∧ _ ∧ _ ∧ _)
          clear n4 n5 n11 n12 nR own6 hB g12 m4 m5 HST hseq f4 hK c11 hown
          have hmin : min (3 : Int) (R.length : Int) = 3 := by omega
          gi_wp2
          go_wp2
          obtain ⟨m4, hB, hK, f4⟩ := HF.out
          have hK2 := (KeepsOthers.setCell W ⟨b4, 0, none⟩ (.bool true)).same D _ hK rfl
          have hx2 := (f4.of_below hB hsz).setCell (p := ⟨b4, 0, none⟩) (Nat.le_of_lt y4) (.bool true)
          have h2 := Boxed.cell (Boxed.kept (Boxed.set (.bool true) m4) (grownBy_putObj' _ D (.deferred none)) (by simp; omega))
          refine ⟨by simp, .inl ⟨_, _, rfl, run_takeDeferred hK2, ?_⟩⟩
          refine ⟨.bool true, ?_, rfl, Below.trans hx2 (belowK_b (w := w) (Nat.le_refl _) _ D _ _ (by omega) hK2 rfl rfl)⟩
          simp [results, Try.f4, go_sem, h2]

end Go.Proofs.Ytfgocamajfipmaa
