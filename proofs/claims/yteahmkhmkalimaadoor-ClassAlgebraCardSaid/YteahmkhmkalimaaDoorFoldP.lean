/- The program's Fold as a contract. No condition. -/
import Derived.Test.YteahmkhmkalimaaDoorFold
namespace Go.Proofs.YteahmkhmkalimaaDoor
open Go.RowKit

/-- With the other case of the letters from A up to k. -/
def pfTo (p : Nat → Bool) (k : Nat) : Nat → Bool := fun x => p x || (decide (65 ≤ otherB x) && decide (otherB x < k) && p (otherB x))
theorem pf_start (p : Nat → Bool) : pfTo p 65 = p := by
  funext x
  unfold pfTo
  by_cases h : 65 ≤ otherB x
  · have : decide (otherB x < 65) = false := by simp; omega
    rw [this]; simp
  · have : decide (65 ≤ otherB x) = false := by simpa using h
    rw [this]; simp
theorem pf_hit (p : Nat → Bool) (k : Nat) (h65 : 65 ≤ k) (h : p k = true) : (fun x => pfTo p k x || (fun x => x == otherB k) x) = pfTo p (k + 1) := by
  funext x
  unfold pfTo
  simp only
  by_cases hx : otherB x = k
  · have e : (x == otherB k) = true := by rw [beq_iff_eq, ← hx, otherB_inv]
    have e2 : decide (65 ≤ otherB x) = true := by simp; omega
    have e3 : decide (otherB x < k + 1) = true := by simp; omega
    rw [e, e2, e3, hx, h]
    simp
  · have e : (x == otherB k) = false := by
      rw [beq_eq_false_iff_ne]
      intro c
      exact hx (by rw [c, otherB_inv])
    have e2 : decide (otherB x < k + 1) = decide (otherB x < k) := by rw [decide_eq_decide]; omega
    rw [e, e2, Bool.or_false]
theorem pf_miss (p : Nat → Bool) (k : Nat) (h : p k = false) : pfTo p (k + 1) = pfTo p k := by
  funext x
  unfold pfTo
  by_cases hx : otherB x = k
  · rw [hx, h]; simp
  · have e2 : decide (otherB x < k + 1) = decide (otherB x < k) := by rw [decide_eq_decide]; omega
    rw [e2]
theorem letters : ∀ x : Fin 256, otherB x.val = x.val ∨ (65 ≤ otherB x.val ∧ otherB x.val < 123) := by decide +kernel
theorem pf_end (p : Nat → Bool) : setV (pfTo p 123) = setV (foldB p) := setV_congr fun b hb => by
  unfold pfTo foldB
  rcases letters ⟨b, hb⟩ with h | ⟨h1, h2⟩
  · simp only at h
    rw [h]
    cases p b <;> simp
  · simp only at h1 h2
    have e1 : decide (65 ≤ otherB b) = true := by simpa using h1
    have e2 : decide (otherB b < 123) = true := by simpa using h2
    rw [e1, e2]
    simp

theorem has_a (p : Nat → Bool) (b : Nat) (w : World) (hb : b < 256) :
    Calls Tryd.prog 17 #[.agg #[.int .u64 (wd p 0 : Int), .int .u64 (wd p 1 : Int), .int .u64 (wd p 2 : Int), .int .u64 (wd p 3 : Int)], .int .u8 b] w fun r w' => r = .returned (.bool (p b)) ∧ Ext w w' := has_any p b w hb

set_option maxRecDepth 100000 in
set_option maxHeartbeats 8000000 in
theorem fold_any (p : Nat → Bool) (w : World) :
    Calls Tryd.prog 31 #[setV p] w fun r w' => r = .returned (setV (foldB p)) ∧ Ext w w' := by
  have HH := Lib.hid (fun b W h => has_a p b W h)
  have HO := Lib.hid (fun b W h => other_any b W h)
  have HF := Lib.hid (fun b W t c h => of1 b W t c h)
  have HJ := Lib.hid (fun p q W t c => join2 p q W t c)
  unfold setV u64v
  go_enter Tryd.func31, Tryd.ntmps31
  go_wp2
  obtain ⟨w1, hw1⟩ : ∃ w1, w1 = w.alloc (.cells (setC p) 24) := ⟨_, rfl⟩
  have ha : Blk w1 w.heap.size 24 (setC p) := by rw [hw1]; exact Blk.new w _ _
  have hx1 : Ext w w1 := by rw [hw1]; exact (Ext.refl w).alloc _
  have hsz : w1.heap.size = w.heap.size + 1 := by rw [hw1]; simp
  rw [← setC_none]
  change Code.wp _ _ _ _ (((w.alloc (.cells (setC p) 24)).alloc (.cells (setC noB) 24)).alloc (.cells (setC p) 24))
  rw [← hw1, ← hsz]
  have hr0 := (Blk.new w1 24 (setC noB)).alloc (.cells (setC p) 24)
  have hs0 : Blk _ _ _ _ := heap_alloc2_new w1 (.cells (setC noB) 24) (.cells (setC p) 24)
  have ha0 := (ha.alloc (.cells (setC noB) 24)).alloc (.cells (setC p) 24)
  have hx0 := (hx1.alloc (.cells (setC noB) 24)).alloc (.cells (setC p) 24)
  have hlt1 : w.heap.size < w1.heap.size := by omega
  clear hw1 ha hx1 hsz
  generalize (w1.alloc (.cells (setC noB) 24)).alloc (.cells (setC p) 24) = w2 at *
  generalize w1.heap.size = R at *
  clear w1
  go_loopw [4] (fun i wr => ∃ k : Nat, 65 ≤ k ∧ k ≤ 123 ∧ i = .int .i32 k ∧ Blk wr (R + 1) 24 (setC (pfTo p k)) ∧ Blk wr R 24 (setC noB) ∧ Blk wr w.heap.size 24 (setC p) ∧ Ext w wr) (fun i _ => 123 - (intOf i).toNat)
  case atStart => exact ⟨65, by omega, by omega, rfl, by rw [pf_start]; exact hs0, hr0, ha0, hx0⟩
  case round =>
    clear hs0 hr0 ha0 hx0
    obtain ⟨k, hk1, hk2, rfl, hs, hr, ha, hx⟩ := hrel
    by_cases hlt : k ≤ 122
    · obtain ⟨a0, a1, a2, a3, _, _, _, _⟩ := setC_cells ha
      have hh := Lib.hid (fun W => HH.out k W (by omega))
      cases hp : p k with
      | false =>
        rw [hp] at hh
        have HE := Lib.hid (pf_miss p k hp)
        clear hp
        go_wp2_with (go_at_call 17; ((with_reducible refine (hh.out _).mono ?_); rintro e w3 ⟨rfl, hx3⟩))
        go_roundw
        case rel => exact ⟨k + 1, by omega, by omega, by go_num, by rw [HE.out]; exact hs.ext hx3, hr.ext hx3, ha.ext hx3, hx.trans hx3⟩
        case measure => simp [intOf]; omega
      | true =>
        rw [hp] at hh
        have HE := Lib.hid (pf_hit p k hk1 hp)
        have ho := Lib.hid (fun W => HO.out k W (by omega))
        have hf := Lib.hid (fun W t c => HF.out (otherB k) W t c (otherB_lt k (by omega)))
        clear hp
        generalize otherB k = o at *
        have hz := hs.lt
        go_upto_region 6 with (go_at_call 17; ((with_reducible refine (hh.out _).mono ?_); rintro e w3 ⟨rfl, hx3⟩))
        replace hs := hs.ext hx3
        replace hr := hr.ext hx3
        replace ha := ha.ext hx3
        replace hx := hx.trans hx3
        clear a0 a1 a2 a3 hx3
        obtain ⟨b0, b1, b2, b3, _, _, _, _⟩ := setC_cells hs
        generalize hq : pfTo p k = q at *
        have hz3 := hs.lt
        have HQ := Lib.hid hq
        clear hq
        have qk : IntKind.u8.wrap (k : Int) = (k : Int) := by rw [IntKind.wrap_u8]; omega
        go_region_with (first
          | (go_at_call 29; ((with_reducible refine (ho.out _).mono ?_); rintro e w4 ⟨rfl, hw4⟩; have hx4 : Ext w3 w4 := (Ext.refl w3).drew.trans (by rw [hw4]; exact Ext.refl _); obtain ⟨b0, b1, b2, b3, _, _, _, _⟩ := setC_cells (hs.ext hx4); have hz4 := (hs.ext hx4).lt))
          | (go_at_call 11; ((with_reducible refine (hf.out _ _ _).mono ?_); rintro e w5 ⟨rfl, hx5⟩; have hxx5 := hx4.trans hx5; obtain ⟨b0, b1, b2, b3, _, _, _, _⟩ := setC_cells (hs.ext hxx5); have hz5 := (hs.ext hxx5).lt))
          | (go_at_call 36; ((with_reducible refine (HJ.out q (fun x => x == o) _ _ _).mono ?_); rintro e w6 ⟨rfl, hx6⟩; have hxx6 := hxx5.trans hx6; obtain ⟨d0, d1, d2, d3, f0, f1, f2, f3⟩ := setC_cells (hs.ext hxx6))))
        all_goals
          have hs4 : Blk _ _ _ (setC fun x => q x || (fun x => x == o) x) := ((((hs.ext hxx6).set 0 (.int .u64 (wd (fun x => q x || (fun x => x == o) x) 0 : Int))).set 1 (.int .u64 (wd (fun x => q x || (fun x => x == o) x) 1 : Int))).set 2 (.int .u64 (wd (fun x => q x || (fun x => x == o) x) 2 : Int))).set 3 (.int .u64 (wd (fun x => q x || (fun x => x == o) x) 3 : Int))
          clear qk
          go_wp2
          go_roundw
          case rel =>
            refine ⟨k + 1, by omega, by omega, by go_num, by rw [← HE.out]; exact hs4, ((((hr.ext hxx6).far (by simp) _).far (by simp) _).far (by simp) _).far (by simp) _, ((((ha.ext hxx6).far (by simp; omega) _).far (by simp; omega) _).far (by simp; omega) _).far (by simp; omega) _, ((((hx.trans hxx6).setCell (by simp; omega) _).setCell (by simp; omega) _).setCell (by simp; omega) _).setCell (by simp; omega) _⟩
          case measure => simp [intOf]; omega
    · have hk3 : k = 123 := by omega
      subst hk3
      go_wp2_with (first
        | (refine wpl_loadSet rfl (.tmp 3) rfl (R + 1) _ (pfTo p 123) rfl hs ?_)
        | (refine wpl_storeSet rfl (.tmp 2) (.tmp 22) rfl R _ (pfTo p 123) noB rfl rfl hr ?_))
      exact ret_set rfl rfl rfl hr.setRow ⟨congrArg Ending.returned (pf_end p), hx.setRow (by omega) _⟩

end Go.Proofs.YteahmkhmkalimaaDoor
