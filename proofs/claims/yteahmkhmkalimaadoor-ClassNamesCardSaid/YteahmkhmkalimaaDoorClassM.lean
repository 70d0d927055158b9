/- The law ClassNames as a walk. No condition but where the error values lie. -/
import Derived.Test.YteahmkhmkalimaaDoorTexts
namespace Go.Proofs.YteahmkhmkalimaaDoor
open Go.RowKit

theorem named_at (c : Nat) (w : World) (hc : c < 12) : Calls Tryd.prog 23 #[.string (clsN c)] w fun r w' => r = .returned (.tuple #[.agg #[.int .u64 (wd (clsB c) 0 : Int), .int .u64 (wd (clsB c) 1 : Int), .int .u64 (wd (clsB c) 2 : Int), .int .u64 (wd (clsB c) 3 : Int)], .nilIface]) ∧ Ext w w' := by
  rcases (show c = 0 ∨ c = 1 ∨ c = 2 ∨ c = 3 ∨ c = 4 ∨ c = 5 ∨ c = 6 ∨ c = 7 ∨ c = 8 ∨ c = 9 ∨ c = 10 ∨ c = 11 from by omega) with rfl | rfl | rfl | rfl | rfl | rfl | rfl | rfl | rfl | rfl | rfl | rfl
  · exact namedA_alnum w
  · exact namedA_alpha w
  · exact namedA_blank w
  · exact namedA_cntrl w
  · exact namedA_digit w
  · exact namedA_graph w
  · exact namedA_lower w
  · exact namedA_print w
  · exact namedA_punct w
  · exact namedA_space w
  · exact namedA_upper w
  · exact namedA_xdigit w
theorem rNamed_at (c : Nat) (w : World) (hc : c < 12) : Calls Tryd.prog 24 #[.string (clsN c)] w fun r w' => r = .returned (.tuple #[.agg #[.int .u64 (wd (clsB c) 0 : Int), .int .u64 (wd (clsB c) 1 : Int), .int .u64 (wd (clsB c) 2 : Int), .int .u64 (wd (clsB c) 3 : Int)], .bool true]) ∧ Ext w w' := by
  rcases (show c = 0 ∨ c = 1 ∨ c = 2 ∨ c = 3 ∨ c = 4 ∨ c = 5 ∨ c = 6 ∨ c = 7 ∨ c = 8 ∨ c = 9 ∨ c = 10 ∨ c = 11 from by omega) with rfl | rfl | rfl | rfl | rfl | rfl | rfl | rfl | rfl | rfl | rfl | rfl
  · exact rNamedA_alnum w
  · exact rNamedA_alpha w
  · exact rNamedA_blank w
  · exact rNamedA_cntrl w
  · exact rNamedA_digit w
  · exact rNamedA_graph w
  · exact rNamedA_lower w
  · exact rNamedA_print w
  · exact rNamedA_punct w
  · exact rNamedA_space w
  · exact rNamedA_upper w
  · exact rNamedA_xdigit w
/-- The twelve names as cells, the first k spoilt. -/
def nmC (k : Nat) : Array Value := ((List.range 12).map fun c => Value.string (if c < k then ⟨#[115, 112, 111, 105, 108, 116]⟩ else clsN c)).toArray
def nmL : List ByteArray := (List.range 12).map clsN
theorem nmC_size (k : Nat) : (nmC k).size = 12 := by unfold nmC; simp
theorem nmC_get (k i : Nat) (h : i < 12) : (nmC k)[i]? = some (.string (if i < k then ⟨#[115, 112, 111, 105, 108, 116]⟩ else clsN i)) := by unfold nmC; simp [h]
theorem nmC_set (k : Nat) (h : k < 12) : (nmC k).setIfInBounds k (.string ⟨#[115, 112, 111, 105, 108, 116]⟩) = nmC (k + 1) := by
  apply Array.ext_getElem?
  intro j
  rw [Array.getElem?_setIfInBounds, nmC_size]
  rcases Nat.lt_or_ge j 12 with hj | hj
  · rw [nmC_get _ _ hj, nmC_get _ _ hj]
    split
    · rename_i e; subst e; rw [if_pos (show k < k + 1 by omega)]
    · rename_i e
      by_cases h1 : j < k
      · rw [if_pos h1, if_pos (by omega)]
      · rw [if_neg h1, if_neg (by omega)]
  · have e1 : ∀ q, (nmC q)[j]? = none := fun q => Array.getElem?_eq_none (by rw [nmC_size]; exact hj)
    rw [e1, e1]
    split
    · omega
    · rfl
theorem nmC_zero : nmC 0 = #[.string ⟨#[97, 108, 110, 117, 109]⟩, .string ⟨#[97, 108, 112, 104, 97]⟩, .string ⟨#[98, 108, 97, 110, 107]⟩, .string ⟨#[99, 110, 116, 114, 108]⟩, .string ⟨#[100, 105, 103, 105, 116]⟩, .string ⟨#[103, 114, 97, 112, 104]⟩, .string ⟨#[108, 111, 119, 101, 114]⟩, .string ⟨#[112, 114, 105, 110, 116]⟩, .string ⟨#[112, 117, 110, 99, 116]⟩, .string ⟨#[115, 112, 97, 99, 101]⟩, .string ⟨#[117, 112, 112, 101, 114]⟩, .string ⟨#[120, 100, 105, 103, 105, 116]⟩] := rfl
theorem rdT_nm {w : World} {g : Nat} {t : TypeId} {c : Nat} (h : Blk w g t (nmC 0)) : RdT w (.slice (some ⟨g, 0, none⟩) 12 c) nmL :=
  ⟨_, _, rfl, fun j hj => ⟨g, 0, rfl, by
    have hj2 : j < 12 := hj
    rw [Nat.zero_add, h.cell, nmC_get _ _ hj2, if_neg (by omega)]
    unfold nmL
    simp [hj2]⟩⟩
theorem names_any (w : World) : Calls Tryd.prog 26 #[] w fun r w' => r = .returned (.slice (some ⟨w.heap.size, 0, none⟩) 12 12) ∧ w' = w.alloc (.cells (nmC 0) 9) := by
  go_enter Tryd.func26, Tryd.ntmps26
  go_wp2
  go_ret
  exact ⟨rfl, rfl⟩

set_option maxRecDepth 100000 in
set_option maxHeartbeats 8000000 in
theorem classNames_walk (w : World) (hE : ∃ A, ErrsAt w A) :
    Calls Tryd.prog 6 #[] w fun r w' => r = .returned (.bool true) ∧ Ext w w' := by
  obtain ⟨A, hA⟩ := hE
  have HL := Lib.hid (classLives_any A w hA)
  have HN := Lib.hid (fun W => names_any W)
  have HT := Lib.hid (fun va vb W h1 h2 => sameTexts_true nmL va vb W h1 h2 (by decide))
  have HD := Lib.hid (fun c W h => named_at c W h)
  have HR := Lib.hid (fun c W h => rNamed_at c W h)
  have hnq := neq_same
  clear hA
  go_enter Tryd.func6, Tryd.ntmps6
  go_upto_region 5 with (first
    | (go_at_call 22; refine HL.out.mono ?_; rintro e w1 ⟨rfl, hx1⟩)
    | (go_at_call 26; refine (HN.out _).mono ?_; rintro e w2 ⟨rfl, rfl⟩))
  have b0 : Blk (w1.alloc (.cells (nmC 0) 9)) w1.heap.size 9 (nmC 0) := Blk.new w1 _ _
  have b1 : Blk ((w1.alloc (.cells (nmC 0) 9)).alloc (.cells (nmC 0) 9)) (w1.heap.size + 1) 9 (nmC 0) := heap_alloc2_new w1 _ _
  have b2 : Blk (((w1.alloc (.cells (nmC 0) 9)).alloc (.cells (nmC 0) 9)).alloc (.cells (nmC 0) 9)) (w1.heap.size + 1 + 1) 9 (nmC 0) := by
    have := heap_alloc2_new (w1.alloc (.cells (nmC 0) 9)) (.cells (nmC 0) 9) (.cells (nmC 0) 9)
    rw [World.size_alloc] at this
    exact this
  replace b0 := (b0.alloc (.cells (nmC 0) 9)).alloc (.cells (nmC 0) 9)
  replace b1 := b1.alloc (.cells (nmC 0) 9)
  have hx := ((hx1.alloc (.cells (nmC 0) 9)).alloc (.cells (nmC 0) 9)).alloc (.cells (nmC 0) 9)
  rw [← nmC_zero]
  have hz1 := hx1.size
  generalize ((w1.alloc (.cells (nmC 0) 9)).alloc (.cells (nmC 0) 9)).alloc (.cells (nmC 0) 9) = w2 at *
  generalize w1.heap.size = G at *
  clear hx1
  go_wp2_with (first
    | (go_at_call 27; ((with_reducible refine (HT.out _ _ _ (rdT_nm b1) (rdT_nm b0)).mono ?_); rintro e w3 ⟨rfl, hx3⟩))
    | (go_at_call 27; ((with_reducible refine (HT.out _ _ _ (rdT_nm (b2.ext hx3)) (rdT_nm (b0.ext hx3))).mono ?_); rintro e w4 ⟨rfl, hx4⟩)))
  have hx34 := hx3.trans hx4
  replace b0 := b0.ext hx34
  replace b1 := b1.ext hx34
  replace b2 := b2.ext hx34
  replace hx := hx.trans hx34
  clear hx3 hx4 hx34
  go_loopw [4, 5, 6, 7, 8, 26] (fun _ _ _ _ _ i wr => ∃ k : Nat, k ≤ 12 ∧ i = .int .i64 k ∧ Blk wr G 9 (nmC 0) ∧ Blk wr (G + 1) 9 (nmC k) ∧ Blk wr (G + 1 + 1) 9 (nmC 0) ∧ Ext w wr) (fun _ _ _ _ _ i _ => 12 - (intOf i).toNat)
  case atStart => exact ⟨0, by omega, rfl, b0, b1, b2, hx⟩
  case round =>
    clear b0 b1 b2 hx
    obtain ⟨k, hk, rfl, b0, b1, b2, hx⟩ := hrel
    by_cases hlt : k < 12
    · have c1 := b1.cell k
      rw [nmC_get _ _ hlt, if_neg (by omega)] at c1
      have hd := Lib.hid (fun W => HD.out k W hlt)
      have hr := Lib.hid (fun W => HR.out k W hlt)
      have c0 := b0.cell k
      rw [nmC_get _ _ hlt, if_neg (by omega)] at c0
      generalize hs : clsN k = s at *
      generalize hp : clsB k = p at *
      clear hs hp
      have hz2 := b2.lt
      go_wp2_with (first
        | (go_at_call 23; ((with_reducible refine (hd.out _).mono ?_); rintro e w5 ⟨rfl, hx5⟩; have hc0 := hx5.cell c0; have hz5 := hx5.size; have hg5 : G < w5.heap.size := (by omega); have hg51 : G + 1 < w5.heap.size := (by omega)))
        | (go_at_call 24; ((with_reducible refine (hr.out _).mono ?_); rintro e w6 ⟨rfl, hx6⟩; have hB : Blk _ _ 24 (setC p) := (Blk.new w5 24 (setC p)).ext hx6; have hzB := hB.lt; obtain ⟨q0, q1, q2, q3, _, _, _, _⟩ := setC_cells hB; have hx56 := (hx5.alloc (.cells (setC p) 24)).trans hx6; have m1 := (b1.ext hx56).cell k; have m2 := (b1.ext hx56).frozen k; have hz6 := hx56.size; have hg6 : G < w6.heap.size := (by omega); have hg61 : G + 1 < w6.heap.size := (by omega); rw [nmC_get _ _ hlt, if_neg (by omega)] at m1)))
      go_roundw
      case rel =>
        refine ⟨k + 1, by omega, by go_num, ((b0.ext hx56).far (by simp) _).alloc _, ?_, ((b2.ext hx56).far (by simp) _).alloc _, ((hx.trans hx56).setCell (by simp; omega) _).alloc _⟩
        rw [← nmC_set k hlt]
        exact ((b1.ext hx56).set k _).alloc _
      case measure => simp [intOf]; omega
    · have hks : k = 12 := by omega
      subst hks
      go_wp2_with (first
        | (go_at_call 27; ((with_reducible refine (HT.out _ _ _ (rdT_nm b2) (rdT_nm b0)).mono ?_); rintro e w7 ⟨rfl, hx7⟩))
        | (go_at_call 26; refine (HN.out _).mono ?_; rintro e w8 ⟨rfl, rfl⟩)
        | (go_at_call 27; ((with_reducible refine (HT.out _ _ _ (rdT_nm (Blk.new w7 _ _)) (rdT_nm ((b0.ext hx7).alloc _))).mono ?_); rintro e w9 ⟨rfl, hx9⟩)))
      go_ret
      exact ⟨rfl, ((hx.trans hx7).alloc _).trans hx9⟩


end Go.Proofs.YteahmkhmkalimaaDoor
