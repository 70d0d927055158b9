/- Feed and End of a reader that is ended. Condition: where the program's error values lie. -/
import Derived.Test.YtfgocamajfipmaaDoorLAid
import Derived.Test.YtfgocamajfipmaaDoorNumErr
namespace Go.Proofs.YtfgocamajfipmaaDoor
open Go.RowKit

theorem closed_var (A : Nat → Addr) (w : World) (h : ErrsAt w A) : w.cell? ⟨0, 0, none⟩ = some (.iface 63 (.pointer (some (A 20)))) := by
  have v := h.var 20 (by omega)
  simp only [gb, gbs, List.getD_cons_zero, List.getD_cons_succ] at v
  exact v
theorem feed_closed (A : Nat → Addr) (B g : Nat) (hv : Value) (held : List UInt8) (cnt : Nat) (bv : Value) (w : World) (hR : Rdr w B g hv held cnt true) (hE : ErrsAt w A) :
    Calls Tryd.prog 9 #[.pointer (some ⟨g, 0, none⟩), bv] w fun r w' => r = .returned (.tuple #[.slice none 0 0, .iface 63 (.pointer (some (A 20)))]) ∧ Ext w w' := by
  have c2 : w.cell? ⟨g, 2, none⟩ = some (.bool true) := hR.blk.cell 2
  have v := closed_var A w hE
  go_enter Tryd.func9, Tryd.ntmps9
  go_wp2
  go_region
  go_wp2
  go_ret2
  exact ⟨rfl, (Ext.refl w).drew⟩
theorem end_closed (A : Nat → Addr) (B g : Nat) (hv : Value) (held : List UInt8) (cnt : Nat) (w : World) (hR : Rdr w B g hv held cnt true) (hE : ErrsAt w A) :
    Calls Tryd.prog 10 #[.pointer (some ⟨g, 0, none⟩)] w fun r w' => r = .returned (.tuple #[.string ⟨#[]⟩, .bool false, .iface 63 (.pointer (some (A 20)))]) ∧ Ext w w' := by
  have c2 : w.cell? ⟨g, 2, none⟩ = some (.bool true) := hR.blk.cell 2
  have v := closed_var A w hE
  go_enter Tryd.func10, Tryd.ntmps10
  go_wp2
  go_region
  go_wp2
  go_ret3
  exact ⟨rfl, (Ext.refl w).drew⟩

/-- Split and Lines of a text told by its bytes. -/
theorem rSplit_V (f : List UInt8) (w : World) (hs : f.length ≤ 1000000000) :
    Calls Tryd.prog 13 #[strV f] w fun r w' => ∃ lv, r = .returned (.tuple #[lv, strV (splitL [] f).2]) ∧ Own1 w' w.heap.size 9 lv ((splitL [] f).1.map strV) ∧ Ext w w' := rSplit_any ⟨f.toArray⟩ w hs
theorem rLines_V (f : List UInt8) (w : World) (hs : f.length ≤ 1000000000) :
    Calls Tryd.prog 15 #[strV f] w fun r w' => ∃ lv, r = .returned lv ∧ Own1 w' w.heap.size 9 lv ((allL f).map strV) ∧ Ext w w' := rLines_any ⟨f.toArray⟩ w hs
theorem split_rest (f b : List UInt8) : splitL [] ((splitL [] f).2 ++ b) = splitL (splitL [] f).2 b := by
  have h := splitL_rest_free f [] (by simp)
  have := splitL_pre (splitL [] f).2 [] b h
  rwa [List.nil_append] at this
theorem allL_len (f : List UInt8) : (allL f).length = (splitL [] f).1.length + endN (splitL [] f).2 := by
  unfold allL endN
  split
  · rw [Nat.add_zero]
  · rw [List.length_append]; rfl

theorem rLines_N (f : List UInt8) (n : Nat) (hn : (allL f).length = n) (w : World) (hs : f.length ≤ 1000000000) :
    Calls Tryd.prog 15 #[strV f] w fun r w' => ∃ A c, r = .returned (.slice A n c) ∧ Ext w w' :=
  (rLines_V f w hs).mono fun e w' ⟨lv, h1, h2, h3⟩ => by
    obtain ⟨A, c, hv, _⟩ := h2.shape
    rw [List.length_map, hn] at hv
    exact ⟨A, c, by rw [h1, hv], h3⟩
theorem num_closed (A : Nat → Addr) (w : World) (h : ErrsAt w A) :
    Calls Tryd.prog 16 #[.iface 63 (.pointer (some (A 20)))] w fun r w' => r = .returned (.int .i64 21) ∧ Ext w w' := num_err A 20 w (by omega) h

theorem empty_end_r (r : List UInt8) : (⟨r.toArray⟩ : ByteArray).toList.isEmpty = !endB r := by
  rw [ByteArray.toList_eq]
  cases r <;> rfl

end Go.Proofs.YtfgocamajfipmaaDoor
