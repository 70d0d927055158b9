/- The reference's Count, First, Has, Range and Of as contracts over the sets' bytes. No condition but the text's length. -/
import Derived.Test.YteahmkhmkalimaaDoorRefB
namespace Go.Proofs.YteahmkhmkalimaaDoor
open Go.RowKit

set_option maxRecDepth 100000 in
set_option maxHeartbeats 2000000 in
theorem rCount_any (p : Nat → Bool) (w : World) :
    Calls Tryd.prog 16 #[setV p] w fun r w' => r = .returned (.int .i64 (cntB p 256)) ∧ Ext w w' := by
  have HBi := Lib.hid (fun W => bits_any p W)
  have HL := Lib.hid (cntB_le p)
  have hzz := zero_bools
  unfold setV u64v at HBi ⊢
  go_enter Tryd.func16, Tryd.ntmps16
  go_wp2_with (first
    | (go_at_call 39; refine (HBi.out _).mono ?_; rintro e w1 ⟨rfl, hx1⟩)
    | (refine wpl_storeB rfl (.tmp 3) (.tmp 7) rfl w1.heap.size _ p (fun _ => false) rfl rfl (Blk.new w1 _ _) ?_))
  have hxx : Ext w w1 := ((Ext.refl w).alloc _).trans hx1
  have hs0 : Blk ((w1.alloc (.cells (bC fun _ => false) 53)).setRow w1.heap.size (bC p)) w1.heap.size 53 (bC p) := (Blk.new w1 _ _).setRow
  have hx0 := (hxx.alloc (.cells (bC fun _ => false) 53)).setRow hxx.size (bC p)
  clear hx1 hxx
  generalize (w1.alloc (.cells (bC fun _ => false) 53)).setRow w1.heap.size (bC p) = w2 at *
  generalize w1.heap.size = S at *
  clear w1
  go_loop [4, 5] (fun n i => ∃ k : Nat, k ≤ 256 ∧ i = .int .i64 k ∧ n = .int .i64 (cntB p k)) (fun _ i => 256 - (intOf i).toNat)
  case atStart => exact ⟨0, by omega, rfl, rfl⟩
  case round =>
    obtain ⟨k, hk, rfl, rfl⟩ := hrel
    by_cases hlt : k < 256
    · have c2 := hs0.cell k
      rw [bC_get _ _ hlt] at c2
      have hle := HL.out k
      have hsu : Hid (cntB p (k + 1) = cntB p k + if p k = true then 1 else 0) := Lib.hid rfl
      generalize cntB p k = n at *
      cases hp : p k with
      | true =>
        rw [hp] at c2 hsu
        have HS := Lib.hid (show cntB p (k + 1) = n + 1 from hsu.out)
        clear hsu hp
        go_wp2
        go_round
        case rel => exact ⟨k + 1, by omega, by go_num, by rw [HS.out]; go_num⟩
        case measure => simp [intOf]; omega
      | false =>
        rw [hp] at c2 hsu
        have HS := Lib.hid (show cntB p (k + 1) = n from hsu.out)
        clear hsu hp
        go_wp2
        go_round
        case rel => exact ⟨k + 1, by omega, by go_num, by rw [HS.out]⟩
        case measure => simp [intOf]; omega
    · have hks : k = 256 := by omega
      subst hks
      go_wp2
      go_ret
      exact ⟨rfl, hx0⟩

/-- The least byte from k on. -/
def fstB (p : Nat → Bool) : Nat → Nat → Option Nat
  | 0, _ => none
  | f + 1, k => if p k = true then some k else fstB p f (k + 1)
def fstI : Option Nat → Int
  | none => -1
  | some k => k
theorem fstB_hit {p : Nat → Bool} {f k : Nat} (h : p k = true) : fstB p (f + 1) k = some k := by unfold fstB; rw [if_pos h]
theorem fstB_miss {p : Nat → Bool} {f k : Nat} (h : p k = false) : fstB p (f + 1) k = fstB p f (k + 1) := by
  have : fstB p (f + 1) k = if p k = true then some k else fstB p f (k + 1) := rfl
  rw [this, h]; rfl
theorem fstB_none {p : Nat → Bool} : ∀ {f k : Nat}, (∀ j, k ≤ j → j < k + f → p j = false) → fstB p f k = none
  | 0, _, _ => rfl
  | f + 1, k, h => by
    rw [fstB_miss (h k (by omega) (by omega))]
    exact fstB_none fun j h1 h2 => h j (by omega) (by omega)
theorem fstB_some {p : Nat → Bool} : ∀ {f k m : Nat}, k ≤ m → m < k + f → p m = true → (∀ j, k ≤ j → j < m → p j = false) → fstB p f k = some m
  | 0, _, _, h1, h2, _, _ => by omega
  | f + 1, k, m, h1, h2, hm, h => by
    by_cases e : k = m
    · subst e; exact fstB_hit hm
    · rw [fstB_miss (h k (by omega) (by omega))]
      exact fstB_some (by omega) (by omega) hm fun j a b => h j (by omega) b

set_option maxRecDepth 100000 in
set_option maxHeartbeats 2000000 in
theorem rFirst_any (p : Nat → Bool) (w : World) :
    Calls Tryd.prog 20 #[setV p] w fun r w' => r = .returned (.int .i64 (fstI (fstB p 256 0))) ∧ Ext w w' := by
  have HBi := Lib.hid (fun W => bits_any p W)
  have hzz := zero_bools
  unfold setV u64v at HBi ⊢
  go_enter Tryd.func20, Tryd.ntmps20
  go_wp2_with (first
    | (go_at_call 39; refine (HBi.out _).mono ?_; rintro e w1 ⟨rfl, hx1⟩)
    | (refine wpl_storeB rfl (.tmp 3) (.tmp 6) rfl w1.heap.size _ p (fun _ => false) rfl rfl (Blk.new w1 _ _) ?_))
  have hxx : Ext w w1 := ((Ext.refl w).alloc _).trans hx1
  have hs0 : Blk ((w1.alloc (.cells (bC fun _ => false) 53)).setRow w1.heap.size (bC p)) w1.heap.size 53 (bC p) := (Blk.new w1 _ _).setRow
  have hx0 := (hxx.alloc (.cells (bC fun _ => false) 53)).setRow hxx.size (bC p)
  clear hx1 hxx
  generalize (w1.alloc (.cells (bC fun _ => false) 53)).setRow w1.heap.size (bC p) = w2 at *
  generalize w1.heap.size = S at *
  clear w1
  go_loop [4] (fun i => ∃ k f : Nat, k + f = 256 ∧ i = .int .i64 k ∧ Hid (fstB p 256 0 = fstB p f k)) (fun i => 256 - (intOf i).toNat)
  case atStart => exact ⟨0, 256, rfl, rfl, Lib.hid rfl⟩
  case round =>
    obtain ⟨k, f, hk, rfl, hf⟩ := hrel
    by_cases hlt : k < 256
    · have c2 := hs0.cell k
      rw [bC_get _ _ hlt] at c2
      obtain ⟨f, rfl⟩ : ∃ f', f = f' + 1 := ⟨f - 1, by omega⟩
      have hk2 : k + f ≤ 255 := by omega
      have hk3 : 255 ≤ k + f := by omega
      clear hk
      cases hp : p k with
      | true =>
        rw [hp] at c2
        have HS := Lib.hid (hf.out.trans (fstB_hit hp))
        clear hp
        go_wp2
        go_ret
        exact ⟨ret_int (by rw [HS.out]; rfl), hx0⟩
      | false =>
        rw [hp] at c2
        have HS := Lib.hid (hf.out.trans (fstB_miss hp))
        clear hp
        go_wp2
        go_round
        case rel => exact ⟨k + 1, f, by omega, by go_num, HS⟩
        case measure => simp [intOf]; omega
    · obtain rfl : f = 0 := by omega
      have hk2 : k ≤ 256 := by omega
      clear hk
      go_wp2
      go_ret
      exact ⟨ret_int (by rw [hf.out]; rfl), hx0⟩

set_option maxRecDepth 100000 in
set_option maxHeartbeats 2000000 in
theorem rRange_any (lo hi : Nat) (w : World) (hlo : lo < 256) (hhi : hi < 256) :
    Calls Tryd.prog 14 #[.int .u8 lo, .int .u8 hi] w fun r w' => r = .returned (setV (rangeB lo hi)) ∧ Ext w w' := by
  have HM := Lib.hid (fun q W => made_any q W)
  have hzz := zero_bools
  go_enter Tryd.func14, Tryd.ntmps14
  go_wp2
  rw [← setC_none]
  have hr0 := (Blk.new w 24 (setC fun _ => false)).alloc (.cells (bC fun _ => false) 53)
  have hs0 : Blk _ _ _ _ := heap_alloc2_new w (.cells (setC fun _ => false) 24) (.cells (bC fun _ => false) 53)
  have hx0 := ((Ext.refl w).alloc (.cells (setC fun _ => false) 24)).alloc (.cells (bC fun _ => false) 53)
  generalize (w.alloc (.cells (setC fun _ => false) 24)).alloc (.cells (bC fun _ => false) 53) = w2 at *
  go_loopw [6] (fun i wr => ∃ k : Nat, k ≤ 256 ∧ i = .int .i64 k ∧ Blk wr (w.heap.size + 1) 53 (bC (upB (rangeB lo hi) (fun _ => false) k)) ∧ Blk wr w.heap.size 24 (setC fun _ => false) ∧ Ext w wr) (fun i _ => 256 - (intOf i).toNat)
  case atStart => exact ⟨0, by omega, rfl, by rw [upB_zero]; exact hs0, hr0, hx0⟩
  case round =>
    clear hs0 hr0 hx0
    obtain ⟨k, hk, rfl, hs, hr, hx⟩ := hrel
    by_cases hlt : k < 256
    · have c2 := hs.cell k
      rw [bC_get _ _ hlt] at c2
      have f2 := hs.frozen k
      by_cases h1 : lo ≤ k
      · by_cases h2 : k ≤ hi
        · have HR := Lib.hid (show true = rangeB lo hi k by unfold rangeB; simp [h1, h2])
          have d1 : decide ((lo : Int) ≤ (k : Int)) = true := by simp; omega
          have d2 : decide ((k : Int) ≤ (hi : Int)) = true := by simp; omega
          go_wp2
          go_roundw
          case rel =>
            refine ⟨k + 1, by omega, by go_num, ?_, hr.far (by simp) _, hx.setCell (by simp) _⟩
            rw [← bC_set _ (upB (rangeB lo hi) (fun _ => false) (k + 1)) k (rangeB lo hi k) (upB_at _ _ _) (upB_ne _ _ _), ← HR.out]
            exact hs.set k _
          case measure => simp [intOf]; omega
        · have HR := Lib.hid (show false = rangeB lo hi k by unfold rangeB; simp [h2])
          have d1 : decide ((lo : Int) ≤ (k : Int)) = true := by simp; omega
          have d2 : decide ((k : Int) ≤ (hi : Int)) = false := by simp; omega
          go_wp2
          go_roundw
          case rel =>
            refine ⟨k + 1, by omega, by go_num, ?_, hr.far (by simp) _, hx.setCell (by simp) _⟩
            rw [← bC_set _ (upB (rangeB lo hi) (fun _ => false) (k + 1)) k (rangeB lo hi k) (upB_at _ _ _) (upB_ne _ _ _), ← HR.out]
            exact hs.set k _
          case measure => simp [intOf]; omega
      · have HR := Lib.hid (show false = rangeB lo hi k by unfold rangeB; simp [h1])
        have d1 : decide ((lo : Int) ≤ (k : Int)) = false := by simp; omega
        go_wp2
        go_roundw
        case rel =>
          refine ⟨k + 1, by omega, by go_num, ?_, hr.far (by simp) _, hx.setCell (by simp) _⟩
          rw [← bC_set _ (upB (rangeB lo hi) (fun _ => false) (k + 1)) k (rangeB lo hi k) (upB_at _ _ _) (upB_ne _ _ _), ← HR.out]
          exact hs.set k _
        case measure => simp [intOf]; omega
    · rw [upB_full _ _ _ (by omega)] at hs
      go_wp2_with (first
        | (refine wpl_loadB rfl (.tmp 5) rfl (w.heap.size + 1) _ (rangeB lo hi) rfl hs ?_)
        | (go_at_call 37; refine (HM.out _ _).mono ?_; rintro e w4 ⟨rfl, hx4⟩)
        | (refine wpl_storeSet rfl (.tmp 4) (.tmp 24) rfl w.heap.size _ (rangeB lo hi) (fun _ => false) rfl rfl (hr.ext hx4) ?_))
      exact ret_set rfl rfl rfl (hr.ext hx4).setRow ⟨rfl, (hx.trans hx4).setRow (by omega) _⟩

end Go.Proofs.YteahmkhmkalimaaDoor
