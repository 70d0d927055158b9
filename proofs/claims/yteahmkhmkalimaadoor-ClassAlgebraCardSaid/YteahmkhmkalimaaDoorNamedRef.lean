/- The reference's Named, Other and Word as contracts. No condition. -/
import Derived.Test.YteahmkhmkalimaaDoorMember
import Derived.Test.YteahmkhmkalimaaDoorRefB
namespace Go.Proofs.YteahmkhmkalimaaDoor
open Go.RowKit

/-- A return of a set that lies in the result's block, and of a second result. -/
theorem ret_set2 {fn : Func} {x y : Tmp} {R : Ending → World → Prop} {a : Act} {w : World} {g : Nat} {t : TypeId} {p : Nat → Bool} (h : fn.results = #[.cell x 24, .tmp y]) (hp : a.tmps.getD x undef = .pointer (some ⟨g, 0, none⟩)) (hd : a.defers = [])
    (hB : Blk w g t (setC p)) (hR : R (.returned (.tuple #[setV p, a.tmps.getD y undef])) w) : bodyPost Tryd.prog fn R .ret a w := by
  refine bodyPost_ret (v := .tuple #[setV p, a.tmps.getD y undef]) ?_ hd hR
  have hp' : a.tmps[x]?.getD undef = .pointer (some ⟨g, 0, none⟩) := by simpa using hp
  have hl := run_loadVar_row (P := Tryd.prog) w g t 24 (setC p) (0, 0) _ hB Tryd.underlying24 rfl (info_setC p)
  simp [results, h, hp', asAddr, hl, setV_eq]

def anyB (q : Nat → Bool) : Nat → Bool
  | 0 => false
  | n + 1 => anyB q n || q n
theorem anyB_true {q : Nat → Bool} {k : Nat} : ∀ {n : Nat}, k < n → q k = true → anyB q n = true
  | n + 1, h, hq => by
    unfold anyB
    by_cases e : k = n
    · subst e; rw [hq, Bool.or_true]
    · rw [anyB_true (show k < n by omega) hq, Bool.true_or]
theorem anyB_none : ∀ n, anyB (fun _ => false) n = false
  | 0 => rfl
  | n + 1 => by unfold anyB; rw [anyB_none n]; rfl

set_option maxRecDepth 100000 in
set_option maxHeartbeats 4000000 in
theorem rNamed_core (s : ByteArray) (q : Nat → Bool) (w : World) (Hm : ∀ (b : Nat) (W : World), Calls Tryd.prog 45 #[.string s, .int .i64 (b : Int)] W fun r w' => r = .returned (.bool (q b)) ∧ W = w') :
    Calls Tryd.prog 24 #[.string s] w fun r w' => r = .returned (.tuple #[setV q, .bool (anyB q 256)]) ∧ Ext w w' := by
  have HM := Lib.hid (fun q W => made_any q W)
  have HH := Lib.hid Hm
  clear Hm
  have hzz := zero_bools
  go_enter Tryd.func24, Tryd.ntmps24
  go_wp2
  rw [← setC_none]
  have hr0 := (Blk.new w 24 (setC fun _ => false)).alloc (.cells (bC fun _ => false) 53)
  have hs0 : Blk _ _ _ _ := heap_alloc2_new w (.cells (setC fun _ => false) 24) (.cells (bC fun _ => false) 53)
  have hx0 := ((Ext.refl w).alloc (.cells (setC fun _ => false) 24)).alloc (.cells (bC fun _ => false) 53)
  generalize (w.alloc (.cells (setC fun _ => false) 24)).alloc (.cells (bC fun _ => false) 53) = w2 at *
  go_loopw [5, 6] (fun u i wr => ∃ k : Nat, k ≤ 256 ∧ i = .int .i64 k ∧ u = .bool (anyB q k) ∧ Blk wr (w.heap.size + 1) 53 (bC (upB q (fun _ => false) k)) ∧ Blk wr w.heap.size 24 (setC fun _ => false) ∧ Ext w wr) (fun _ i _ => 256 - (intOf i).toNat)
  case atStart => exact ⟨0, by omega, rfl, rfl, by rw [upB_zero]; exact hs0, hr0, hx0⟩
  case round =>
    clear hs0 hr0 hx0
    obtain ⟨k, hk, rfl, rfl, hs, hr, hx⟩ := hrel
    by_cases hlt : k < 256
    · have c2 := hs.cell k
      rw [bC_get _ _ hlt] at c2
      have f2 := hs.frozen k
      have c3 : (wr.setCell ⟨w.heap.size + 1, k, none⟩ (.bool (q k))).cell? ⟨w.heap.size + 1, k, none⟩ = some (.bool (q k)) := by
        have := (hs.set k (.bool (q k))).cell k
        rw [this, Array.getElem?_setIfInBounds, if_pos rfl, if_pos (by rw [bC_size]; exact hlt)]
      have HA := Lib.hid (show anyB q (k + 1) = (anyB q k || q k) from rfl)
      have HS := Lib.hid (bC_set _ (upB q (fun _ => false) (k + 1)) k (q k) (upB_at _ _ _) (upB_ne q (fun _ => false) k))
      have hm := Lib.hid (HH.out k)
      generalize q k = v at *
      generalize anyB q k = u at *
      cases u
      all_goals
        go_wp2_with (go_at_call 45; refine (hm.out _).mono ?_; rintro e w4 ⟨rfl, rfl⟩)
        go_roundw
        case rel => exact ⟨k + 1, by omega, by go_num, by rw [HA.out]; simp, by rw [← HS.out]; exact hs.set k _, hr.far (by simp) _, hx.setCell (by simp) _⟩
        case measure => simp [intOf]; omega
    · have hks : k = 256 := by omega
      subst hks
      rw [upB_full _ _ _ (by omega)] at hs
      go_wp2_with (first
        | (refine wpl_loadB rfl (.tmp 4) rfl (w.heap.size + 1) _ q rfl hs ?_)
        | (go_at_call 37; refine (HM.out _ _).mono ?_; rintro e w4 ⟨rfl, hx4⟩)
        | (refine wpl_storeSet rfl (.tmp 2) (.tmp 23) rfl w.heap.size _ q (fun _ => false) rfl rfl (hr.ext hx4) ?_))
      exact ret_set2 rfl rfl rfl (hr.ext hx4).setRow ⟨rfl, (hx.trans hx4).setRow (by omega) _⟩

end Go.Proofs.YteahmkhmkalimaaDoor
