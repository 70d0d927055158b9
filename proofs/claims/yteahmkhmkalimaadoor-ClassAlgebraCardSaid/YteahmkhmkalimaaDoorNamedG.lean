/- The program's Named of a text that is no name. No condition but where the error values lie. -/
import Derived.Test.YteahmkhmkalimaaDoorNamed
namespace Go.Proofs.YteahmkhmkalimaaDoor
open Go.RowKit

/-- A text that is no name. -/
def NoName (s : ByteArray) : Prop := ∀ c, c < 12 → s ≠ clsN c
theorem noName_l {s : ByteArray} {l : List UInt8} (h : s ≠ ⟨l.toArray⟩) : (s.toList == l) = false := by
  rw [beq_eq_false_iff_ne, ByteArray.toList_eq]
  intro e
  apply h
  cases s with
  | mk d =>
    congr 1
    simp only at e
    rw [← e]

set_option maxRecDepth 100000 in
set_option maxHeartbeats 8000000 in
theorem named_none (s : ByteArray) (A : Nat → Addr) (w : World) (hn : NoName s) (hA : ErrsAt w A) :
    Calls Tryd.prog 23 #[.string s] w fun r w' => r = .returned (.tuple #[setV fun _ => false, errV (A 5)]) ∧ Ext w w' := by
  have n0 := noName_l (l := [97, 108, 110, 117, 109]) (hn 0 (by omega))
  have n1 := noName_l (l := [97, 108, 112, 104, 97]) (hn 1 (by omega))
  have n2 := noName_l (l := [98, 108, 97, 110, 107]) (hn 2 (by omega))
  have n3 := noName_l (l := [99, 110, 116, 114, 108]) (hn 3 (by omega))
  have n4 := noName_l (l := [100, 105, 103, 105, 116]) (hn 4 (by omega))
  have n5 := noName_l (l := [103, 114, 97, 112, 104]) (hn 5 (by omega))
  have n6 := noName_l (l := [108, 111, 119, 101, 114]) (hn 6 (by omega))
  have n7 := noName_l (l := [112, 114, 105, 110, 116]) (hn 7 (by omega))
  have n8 := noName_l (l := [112, 117, 110, 99, 116]) (hn 8 (by omega))
  have n9 := noName_l (l := [115, 112, 97, 99, 101]) (hn 9 (by omega))
  have n10 := noName_l (l := [117, 112, 112, 101, 114]) (hn 10 (by omega))
  have n11 := noName_l (l := [120, 100, 105, 103, 105, 116]) (hn 11 (by omega))
  have HA := Lib.hid hA
  clear hA hn
  go_enter Tryd.func23, Tryd.ntmps23
  go_wp2
  rw [← setC_none]
  have hr : Blk _ _ _ _ := (Blk.new w 24 (setC noB)).alloc (.cells (setC noB) 24)
  have hs : Blk _ _ _ _ := heap_alloc2_new w (.cells (setC noB) 24) (.cells (setC noB) 24)
  have hx := ((Ext.refl w).alloc (.cells (setC noB) 24)).alloc (.cells (setC noB) 24)
  change Code.wp _ _ _ _ ((w.alloc (.cells (setC noB) 24)).alloc (.cells (setC noB) 24))
  generalize (w.alloc (.cells (setC noB) 24)).alloc (.cells (setC noB) 24) = w1 at *
  have v5 := (HA.out.ext hx).var 5 (by omega)
  simp only [gb, gbs, List.getD_cons_zero, List.getD_cons_succ] at v5
  unfold errV at v5
  obtain ⟨a0, a1, a2, a3, _, _, _, _⟩ := setC_cells hs
  obtain ⟨b0, b1, b2, b3, f0, f1, f2, f3⟩ := setC_cells hr
  have hz := hr.lt
  have hg := World.block_lt_of_cell? _ _ (HA.out.var 5 (by omega))
  simp only [gb, gbs, List.getD_cons_zero, List.getD_cons_succ] at hg
  have hg1 : ¬ (w.heap.size = 5) := by omega
  have hg2 : ¬ (5 = w.heap.size) := by omega
  have hrF : Blk _ _ _ (setC noB) := ((((hr.set 0 (.int .u64 (wd noB 0 : Int))).set 1 (.int .u64 (wd noB 1 : Int))).set 2 (.int .u64 (wd noB 2 : Int))).set 3 (.int .u64 (wd noB 3 : Int))).drew
  have hxF : Ext w _ := ((((hx.setCell (p := ⟨w.heap.size, 0, none⟩) (Nat.le_refl _) (.int .u64 (wd noB 0 : Int))).setCell (p := ⟨w.heap.size, 1, none⟩) (Nat.le_refl _) (.int .u64 (wd noB 1 : Int))).setCell (p := ⟨w.heap.size, 2, none⟩) (Nat.le_refl _) (.int .u64 (wd noB 2 : Int))).setCell (p := ⟨w.heap.size, 3, none⟩) (Nat.le_refl _) (.int .u64 (wd noB 3 : Int))).drew
  have HrF := Lib.hid hrF
  have HxF := Lib.hid hxF
  clear n0 n1 n2 n3 n4 n5 n6 n7 n8 n9 n10 n11 hrF hxF
  go_region
  all_goals
    go_wp2
    exact ret_set2 rfl rfl rfl HrF.out ⟨rfl, HxF.out⟩

end Go.Proofs.YteahmkhmkalimaaDoor
