/- The two tables of shifts, of the reference and of the program, as contracts. Texts of at most a million bytes. -/
import Derived.Test.YtceolkbekmlhdaaSeekRef
namespace Go.Proofs.Ytceolkbekmlhdaa
open Go.RowKit

/-- The table when the first k bytes have been looked at. -/
def shTab (t : List UInt8) (k : Nat) : List Int := (List.range 256).map fun b => (shAt t k (UInt8.ofNat b) : Int)
@[simp] theorem shTab_len (t : List UInt8) (k : Nat) : (shTab t k).length = 256 := by simp [shTab]
theorem shTab_get (t : List UInt8) (k b : Nat) (h : b < 256) : (shTab t k).getD b 0 = (shAt t k (UInt8.ofNat b) : Int) := by
  simp [shTab, List.getD_eq_getElem?_getD, h]
/-- What Shifts answers. -/
def shL (t : ByteArray) : List Int := if t.size = 0 then [] else shTab (by_ t) (t.size - 1)

theorem shTab_zero (t : ByteArray) : shTab (by_ t) 0 = List.replicate 256 (t.size : Int) := by
  apply List.ext_getElem
  · rw [shTab_len, List.length_replicate]
  · intro i a b
    simp only [shTab, List.getElem_map, List.getElem_replicate, shAt]
    rw [by_len]
theorem shTab_set (t : ByteArray) (k : Nat) (hk : k < t.size) : (shTab (by_ t) k).set (t[k].toNat) ((t.size : Int) - 1 - k) = shTab (by_ t) (k + 1) := by
  apply List.ext_getElem
  · simp
  · intro i a b
    have hi : i < 256 := by simpa using b
    simp only [List.getElem_set, shTab, List.getElem_map, List.getElem_range, shAt]
    rw [by_get t k hk, by_len]
    by_cases h : t[k].toNat = i
    · have e : t[k] = UInt8.ofNat i := by rw [← h]; simp
      rw [if_pos h, if_pos e]
      omega
    · have e : ¬ t[k] = UInt8.ofNat i := by
        intro e
        apply h
        rw [e]
        simp
        omega
      rw [if_neg h, if_neg e]

theorem isEmpty_of {t : ByteArray} (h : t.size = 0) : t.toList.isEmpty = true := by
  rw [ByteArray.toList_eq]
  have : t.data.toList.length = t.size := by simp
  rw [List.isEmpty_iff_length_eq_zero]; omega
theorem isEmpty_not {t : ByteArray} (h : ¬ t.size = 0) : t.toList.isEmpty = false := by
  rw [ByteArray.toList_eq]
  have : t.data.toList.length = t.size := by simp
  rw [Bool.eq_false_iff]
  intro h
  rw [List.isEmpty_iff_length_eq_zero] at h; omega

set_option maxRecDepth 100000 in
set_option maxHeartbeats 2000000 in
theorem rShifts_any (t : ByteArray) (w : World) (ht : t.size ≤ 1000000) :
    Calls Try.prog 19 #[.string t] w fun r w' => (∃ v, r = .returned v ∧ Own1 w' w.heap.size 3 v (cI (shL t))) ∧ Ext w w' := by
  by_cases h0 : t.size = 0
  · have hf : shL t = [] := by unfold shL; rw [if_pos h0]
    have hse := isEmpty_of h0
    have HF := Lib.hid hf
    clear hf h0
    go_enter Try.func19, Try.ntmps19
    go_wp2
    go_ret
    exact ⟨⟨_, rfl, by rw [HF.out]; exact Own1.nil _ _ _⟩, Ext.refl _⟩
  · have hf : shL t = shTab (by_ t) (t.size - 1) := by unfold shL; rw [if_neg h0]
    have hse := isEmpty_not h0
    have HF := Lib.hid hf
    have htp : 1 ≤ t.size := by omega
    clear hf h0
    go_enter Try.func19, Try.ntmps19
    go_wp2
    go_loopw [3, 4] (fun v i wr => ∃ k : Nat, k ≤ 256 ∧ i = .int .i64 k ∧ Own1 wr w.heap.size 3 v (cI ((shTab (by_ t) (t.size - 1)).take k)) ∧ Ext w wr) (fun _ i _ => 256 - (intOf i).toNat)
    case atStart => exact ⟨0, Nat.zero_le _, rfl, Own1.nil _ _ _, Ext.refl _⟩
    case round =>
      obtain ⟨k, hk, rfl, hown, hx⟩ := hrel
      have hl : (cI ((shTab (by_ t) (t.size - 1)).take k)).length ≤ 256 := by rw [cI_len, List.length_take, shTab_len]; omega
      by_cases hlt : k < 256
      · have hsz := hx.size
        go_wp2
        obtain ⟨wo, hwo⟩ : ∃ wo, wo = wr := ⟨wr, rfl⟩
        subst hwo
        go_loop [5, 6] (fun n i => ∃ j : Nat, j + 1 ≤ t.size ∧ i = .int .i64 j ∧ n = .int .i64 (shAt (by_ t) j (UInt8.ofNat k))) (fun _ i => t.size - (intOf i).toNat)
        case atStart => exact ⟨0, htp, rfl, by unfold shAt; rw [by_len]⟩
        case round =>
          obtain ⟨j, hj, rfl, rfl⟩ := hrel
          by_cases hlt2 : j + 1 < t.size
          · have hj2 : j < t.size := by omega
            have hj3 : (j : Int) < (t.size : Int) - 1 := by omega
            have hw := wrap64_b t[j]
            by_cases hb : t[j].toNat = k
            · have hb2 : ((t[j].toNat : Int) == (k : Int)) = true := by rw [hb]; simp
              have hs : shAt (by_ t) (j + 1) (UInt8.ofNat k) = t.size - 1 - j := by
                unfold shAt
                rw [by_get t j hj2, by_len, if_pos (by rw [← hb]; simp)]
              have HS := Lib.hid hs
              clear hb hs
              go_wp2
              go_round
              case rel => exact ⟨j + 1, by omega, by go_num, by rw [HS.out]; go_num⟩
              case measure => simp [intOf]; omega
            · have hb2 : ((t[j].toNat : Int) == (k : Int)) = false := by rw [beq_eq_false_iff_ne]; omega
              have hs : shAt (by_ t) (j + 1) (UInt8.ofNat k) = shAt (by_ t) j (UInt8.ofNat k) := by
                rw [shAt, by_get t j hj2, if_neg (by intro e; apply hb; rw [e]; simp; omega)]
              have HS := Lib.hid hs
              clear hb hs
              go_wp2
              go_round
              case rel => exact ⟨j + 1, by omega, by go_num, by rw [HS.out]⟩
              case measure => simp [intOf]; omega
          · have hj3 : ¬ (j : Int) < (t.size : Int) - 1 := by omega
            have hjs : j = t.size - 1 := by omega
            subst hjs
            generalize hy : shAt (by_ t) (t.size - 1) (UInt8.ofNat k) = y at *
            have HY := Lib.hid hy; clear hy
            go_wp2_with (at_builtin; refine wpList_app1 rfl (.tmp 34) (.tmp 36) 33 rfl w.heap.size 3 (.int .i64 0) 8 Try.underlying33 info_int rfl _ _ rfl (hown.ext ((Ext.refl wo).alloc _)) wo.heap.size 1 (.int .i64 (y : Int)) rfl (by simp) rfl (by omega) (by omega) (by simp; omega) ?_; intro v3 w3 hown3 hb3)
            go_roundw
            case rel =>
              refine ⟨k + 1, hlt, by go_num, ?_, (hx.alloc _).of_below hb3 (Nat.le_refl _)⟩
              have e : (shTab (by_ t) (t.size - 1)).take (k + 1) = (shTab (by_ t) (t.size - 1)).take k ++ [(y : Int)] := by
                rw [List.take_succ_eq_append_getElem (by rw [shTab_len]; exact hlt)]
                congr 2
                have := shTab_get (by_ t) (t.size - 1) k hlt
                rw [HY.out, List.getD_eq_getElem?_getD, List.getElem?_eq_getElem (by rw [shTab_len]; exact hlt)] at this
                simpa using this
              rw [e]
              simpa [cI] using hown3
            case measure => simp [intOf]; omega
      · have hks : k = 256 := by omega
        subst hks
        go_wp2
        go_ret
        refine ⟨⟨_, rfl, ?_⟩, hx⟩
        rw [HF.out]
        rwa [List.take_of_length_le (by rw [shTab_len]; exact Nat.le_refl _)] at hown

theorem made_256 (W : World) : (Instr.makeSlice 33 (.int .i64 256) (.int .i64 256)).run Try.prog W =
    .ok (.slice (some ⟨W.heap.size, 0, none⟩) 256 256) (W.alloc (.cells (i64s (List.replicate 256 0)) 3)) := by
  obtain ⟨i0, hi0, hz0, hz1, hz2⟩ := info_parts info_int
  have := run_make (P := Try.prog) W 33 3 i0 (.int .i64 0) Try.underlying33 hi0 hz0 .i64 .i64 256 256 (by omega) (by omega) (by rw [hz2]; omega) (by omega)
  rw [this, hz1]
  have e : (256 : Int).toNat * 1 = 256 := rfl
  have e2 : (256 : Int).toNat = 256 := rfl
  rw [e, e2]
  simp only [Value.cells]
  rw [made_i64]

/-- A row of n that is filled from its head: what is there after k rounds. -/
def fillL (n k : Nat) (x : Int) : List Int := List.replicate k x ++ List.replicate (n - k) 0
theorem fillL_len (n k : Nat) (x : Int) (h : k ≤ n) : (fillL n k x).length = n := by unfold fillL; rw [List.length_append, List.length_replicate, List.length_replicate]; omega
theorem fillL_zero (n : Nat) (x : Int) : fillL n 0 x = List.replicate n 0 := by unfold fillL; rw [List.replicate_zero, List.nil_append, Nat.sub_zero]
theorem fillL_full (n : Nat) (x : Int) : fillL n n x = List.replicate n x := by unfold fillL; rw [Nat.sub_self, List.replicate_zero, List.append_nil]
theorem fillL_step (n k : Nat) (x : Int) (h : k < n) : (fillL n k x).set k x = fillL n (k + 1) x := by
  unfold fillL
  have e : n - k = (n - (k + 1)) + 1 := by omega
  rw [e, List.replicate_succ, List.set_append_right _ _ (by simp)]
  simp [List.replicate_succ', List.append_assoc]

set_option maxRecDepth 100000 in
set_option maxHeartbeats 2000000 in
/-- Shifts: nil for the empty text; else a new row of 256. -/
theorem shifts_any (t : ByteArray) (w : World) (ht : t.size ≤ 1000000) :
    Calls Try.prog 18 #[.string t] w fun r w' => ((t.size = 0 ∧ r = .returned (.slice none 0 0)) ∨ 1 ≤ t.size ∧ ∃ g, r = .returned (.slice (some ⟨g, 0, none⟩) 256 256) ∧ w.heap.size ≤ g ∧ Blk w' g 3 (i64s (shTab (by_ t) (t.size - 1)))) ∧ Ext w w' := by
  have hmk := made_256
  by_cases h0 : t.size = 0
  · have hsb : ((t.size : Int) == 0) = true := by rw [h0]; rfl
    have H0 := Lib.hid h0; clear h0
    go_enter Try.func18, Try.ntmps18
    go_wp2
    go_ret
    exact ⟨.inl ⟨H0.out, rfl⟩, Ext.refl _⟩
  · have hsb : ((t.size : Int) == 0) = false := by rw [beq_eq_false_iff_ne]; omega
    have htp : 1 ≤ t.size := by omega
    clear h0
    go_enter Try.func18, Try.ntmps18
    go_upto_region 4 with fail
    go_cut [4] (fun v wx => ∃ g, v = .slice (some ⟨g, 0, none⟩) 256 256 ∧ w.heap.size ≤ g ∧ Blk wx g 3 (i64s (fillL 256 0 t.size)) ∧ Ext w wx)
    case first =>
      go_wp2
      go_meet
      case rel => exact ⟨w.heap.size, rfl, Nat.le_refl _, by rw [fillL_zero]; exact Blk.new w 3 _, (Ext.refl w).alloc _⟩
    case rest =>
      obtain ⟨g, rfl, hg, hb, hx⟩ := hcut
      clear hmk
      go_wp2
      go_loopw [14] (fun i wr => ∃ k : Nat, k ≤ 256 ∧ i = .int .i64 k ∧ Blk wr g 3 (i64s (fillL 256 k t.size)) ∧ Ext w wr) (fun i _ => 256 - (intOf i).toNat)
      case atStart => exact ⟨0, Nat.zero_le _, rfl, hb, hx⟩
      case round =>
        clear hb hx
        obtain ⟨k, hk, rfl, hb, hx⟩ := hrel
        by_cases hlt : k < 256
        · have c2 := hb.cell k
          rw [i64s_get _ _ (by rw [fillL_len _ _ _ hk]; exact hlt)] at c2
          have f2 := hb.frozen k
          have HF := Lib.hid (fillL_step 256 k t.size hlt)
          generalize (fillL 256 k t.size).getD k 0 = y at *
          go_wp2
          go_roundw
          case rel =>
            refine ⟨k + 1, hlt, by go_num, ?_, hx.setCell (by exact hg) _⟩
            rw [← HF.out, ← i64s_set]
            exact hb.set _ _
          case measure => simp [intOf]; omega
        · have hks : k = 256 := by omega
          subst hks
          rw [fillL_full, ← shTab_zero] at hb
          go_wp2
          go_loopw [24] (fun i wr => ∃ k : Nat, k + 1 ≤ t.size ∧ i = .int .i64 k ∧ Blk wr g 3 (i64s (shTab (by_ t) k)) ∧ Ext w wr) (fun i _ => t.size - (intOf i).toNat)
          case atStart => exact ⟨0, htp, rfl, hb, hx⟩
          case round =>
            clear hb hx
            obtain ⟨k, hk, rfl, hb, hx⟩ := hrel
            by_cases hlt : k + 1 < t.size
            · have hj2 : k < t.size := by omega
              have hj3 : (k : Int) < (t.size : Int) - 1 := by omega
              have hbl := t[k].toNat_lt
              have hix : t[k].toNat < 256 := by omega
              have c2 := hb.cell t[k].toNat
              rw [i64s_get _ _ (by rw [shTab_len]; exact hix)] at c2
              have f2 := hb.frozen t[k].toNat
              have HS := Lib.hid (shTab_set t k hj2)
              generalize (shTab (by_ t) k).getD t[k].toNat 0 = y at *
              go_wp2
              go_roundw
              case rel =>
                refine ⟨k + 1, by omega, by go_num, ?_, hx.setCell (by exact hg) _⟩
                rw [← HS.out, ← i64s_set]
                exact hb.set _ _
              case measure => simp [intOf]; omega
            · have hj3 : ¬ (k : Int) < (t.size : Int) - 1 := by omega
              have hks : k = t.size - 1 := by omega
              subst hks
              go_wp2
              go_ret
              exact ⟨.inr ⟨g, rfl, hg, hb⟩, hx⟩

end Go.Proofs.Ytceolkbekmlhdaa
