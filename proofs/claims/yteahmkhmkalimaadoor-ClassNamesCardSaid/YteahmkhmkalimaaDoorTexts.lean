/- trawlnum.SameTexts of two lists that are one, as a contract. Lists of at most 10^12 texts. -/
import Derived.Test.YteahmkhmkalimaaDoorClassA
namespace Go.Proofs.YteahmkhmkalimaaDoor
open Go.RowKit

/-- A slice of texts reads as a list. -/
def RdT (w : World) (v : Value) (l : List ByteArray) : Prop :=
  ∃ A c, v = .slice A l.length c ∧ ∀ j, j < l.length → ∃ g o, A = some ⟨g, o, none⟩ ∧ w.cell? ⟨g, o + j, none⟩ = some (.string (l.getD j ⟨#[]⟩))
theorem RdT.ext {w w' : World} {v : Value} {l : List ByteArray} (h : RdT w v l) (hx : Ext w w') : RdT w' v l := by
  obtain ⟨A, c, hv, hc⟩ := h
  exact ⟨A, c, hv, fun j hj => by obtain ⟨g, o, hA, hcell⟩ := hc j hj; exact ⟨g, o, hA, hx.cell hcell⟩⟩

set_option maxHeartbeats 4000000 in
theorem sameTexts_true (l : List ByteArray) (va vb : Value) (w : World) (ha : RdT w va l) (hb : RdT w vb l) (hl : l.length ≤ 1000000000000) :
    Calls Tryd.prog 27 #[va, vb] w fun r w' => r = .returned (.bool true) ∧ Ext w w' := by
  obtain ⟨A, ca, rfl, hca⟩ := ha
  obtain ⟨B, cb, rfl, hcb⟩ := hb
  have HCA := Lib.hid hca
  have HCB := Lib.hid hcb
  clear hca hcb
  have hne : ((l.length : Int) != (l.length : Int)) = false := by simp
  go_enter Tryd.func27, Tryd.ntmps27
  go_wp2
  go_loopw [5, 13] (fun _ i wr => ∃ k : Nat, k ≤ l.length ∧ i = .int .i64 k ∧ Ext w wr) (fun _ i _ => l.length - (intOf i).toNat)
  case atStart => exact ⟨0, Nat.zero_le _, rfl, Ext.refl _⟩
  case round =>
    obtain ⟨k, hk, rfl, hx⟩ := hrel
    by_cases hlt : k < l.length
    · obtain ⟨g, o, rfl, hc1⟩ := HCA.out k hlt
      obtain ⟨g2, o2, rfl, hc2⟩ := HCB.out k hlt
      have p1 := cell_plus (hx.cell hc1)
      have p2 := cell_plus (hx.cell hc2)
      generalize l.getD k ⟨#[]⟩ = x at *
      have hxx : (x.toList != x.toList) = false := by simp
      clear hc1 hc2
      go_wp2
      refine wp_region_plus (by kernel_rfl) (by kernel_rfl) ?_
      repeat (go_big_quiet_step (fail))
      refine wpQuiet_nil ?_
      intro y
      go_wp2
      go_roundw
      case rel => exact ⟨k + 1, hlt, by go_num, hx.trans (plus_ext _ y)⟩
      case measure => simp [intOf]; omega
    · go_wp2
      go_ret
      exact ⟨rfl, hx⟩

end Go.Proofs.YteahmkhmkalimaaDoor
