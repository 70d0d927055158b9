/- The reference's Of as a contract over the text's bytes. The text is at most maxLen long (as every argument is). -/
import Derived.Test.YteahmkhmkalimaaDoorRefH
namespace Go.Proofs.YteahmkhmkalimaaDoor
open Go.RowKit

/-- A text's bytes as numbers. -/
def byteL (s : ByteArray) : List Nat := s.data.toList.map UInt8.toNat
theorem byteL_len (s : ByteArray) : (byteL s).length = s.size := by simp [byteL]
theorem byteL_get (s : ByteArray) (k : Nat) (h : k < s.size) : (byteL s).getD k 0 = s[k].toNat := by
  have : k < s.data.toList.length := by simpa using h
  unfold byteL
  rw [List.getD_eq_getElem?_getD, List.getElem?_map, List.getElem?_eq_getElem this]
  rfl
theorem byteL_lt (s : ByteArray) (k : Nat) : (byteL s).getD k 0 < 256 := by
  by_cases h : k < s.size
  · rw [byteL_get s k h]; exact UInt8.toNat_lt _
  · rw [List.getD_eq_getElem?_getD, List.getElem?_eq_none (by rw [byteL_len]; omega)]; exact Nat.zero_lt_succ _

set_option maxRecDepth 100000 in
set_option maxHeartbeats 2000000 in
theorem rOf_any (s : ByteArray) (w : World) (hs : s.size ≤ 9223372036854775807) :
    Calls Tryd.prog 12 #[.string s] w fun r w' => r = .returned (setV (ofL (byteL s))) ∧ Ext w w' := by
  have HM := Lib.hid (fun q W => made_any q W)
  have hzz := zero_bools
  go_enter Tryd.func12, Tryd.ntmps12
  go_wp2
  rw [← setC_none]
  have hr0 := (Blk.new w 24 (setC fun _ => false)).alloc (.cells (bC fun _ => false) 53)
  have hs0 : Blk _ _ _ _ := heap_alloc2_new w (.cells (setC fun _ => false) 24) (.cells (bC fun _ => false) 53)
  have hx0 := ((Ext.refl w).alloc (.cells (setC fun _ => false) 24)).alloc (.cells (bC fun _ => false) 53)
  generalize (w.alloc (.cells (setC fun _ => false) 24)).alloc (.cells (bC fun _ => false) 53) = w2 at *
  go_loopw [4] (fun i wr => ∃ k : Nat, k ≤ s.size ∧ i = .int .i64 k ∧ Blk wr (w.heap.size + 1) 53 (bC (ofL ((byteL s).take k))) ∧ Blk wr w.heap.size 24 (setC fun _ => false) ∧ Ext w wr) (fun i _ => s.size - (intOf i).toNat)
  case atStart => exact ⟨0, by omega, rfl, hs0, hr0, hx0⟩
  case round =>
    clear hs0 hr0 hx0
    obtain ⟨k, hk, rfl, hb, hr, hx⟩ := hrel
    by_cases hlt : k < s.size
    · have HE := Lib.hid (ofL_snoc (byteL s) k (by rw [byteL_len]; exact hlt))
      have hy1 := byteL_get s k hlt
      have hy2 : s[k].toNat < 256 := UInt8.toNat_lt _
      generalize hy : s[k].toNat = y at *
      have c2 := hb.cell y
      rw [bC_get _ _ hy2] at c2
      have f2 := hb.frozen y
      rw [hy1] at HE
      clear hy1
      go_wp2
      go_roundw
      case rel =>
        refine ⟨k + 1, by omega, by go_num, ?_, hr.far (by simp) _, hx.setCell (by simp) _⟩
        rw [HE.out, ← bC_set (ofL ((byteL s).take k)) (insB (ofL ((byteL s).take k)) y) y true (by simp [insB]) (fun b hb => by simp [insB, hb])]
        exact hb.set y _
      case measure => simp [intOf]; omega
    · have e : (byteL s).take k = byteL s := List.take_of_length_le (by rw [byteL_len]; omega)
      rw [e] at hb
      go_wp2_with (first
        | (refine wpl_loadB rfl (.tmp 3) rfl (w.heap.size + 1) _ (ofL (byteL s)) rfl hb ?_)
        | (go_at_call 37; refine (HM.out _ _).mono ?_; rintro e w4 ⟨rfl, hx4⟩)
        | (refine wpl_storeSet rfl (.tmp 2) (.tmp 16) rfl w.heap.size _ (ofL (byteL s)) (fun _ => false) rfl rfl (hr.ext hx4) ?_))
      exact ret_set rfl rfl rfl (hr.ext hx4).setRow ⟨rfl, (hx.trans hx4).setRow (by omega) _⟩

end Go.Proofs.YteahmkhmkalimaaDoor
