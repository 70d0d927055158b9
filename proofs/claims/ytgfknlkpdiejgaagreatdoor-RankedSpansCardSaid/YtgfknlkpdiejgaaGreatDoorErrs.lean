/- The program's 21 error values as a walk meets them: where they lie, that they are different, what errors.Is and trawlnum.Num answer of them. No condition but that the row's listed variables hold what the row lists. -/
import Derived.Test.YtgfknlkpdiejgaaGreatDoorErrB
import Derived.Test.YtgfknlkpdiejgaaGreatDoorProg
import Derived.Test.YtgfknlkpdiejgaaGreatDoorLib
import Derived.LaidEql
import Derived.Stop.Asserts
import Derived.Stop.LaidErr
import Derived.RowKitTokens
namespace Go.Proofs.YtgfknlkpdiejgaaGreatDoor
open Go.RowKit Go.Extern.Stop Go.Stop Go.Extern

/-- The variables' blocks, their names, their texts. -/
def gbs : List Nat := [0, 1, 2, 3, 4, 5, 6, 7, 8, 9, 10, 11, 12, 13, 14, 15, 16, 17, 18, 19, 20]
def gb (i : Nat) : Nat := gbs.getD i 0
structure ErrsAt (w : World) (A : Nat → Addr) : Prop where
  var : ∀ i, i < 21 → w.cell? ⟨gb i, 0, none⟩ = some (errV (A i))
  blk : ∀ i, i < 21 → ∃ c t, w.heap[(A i).block]? = some (.cells c t (0, 0))
  txt : ∀ i, i < 21 → ∃ s, w.cell? (A i) = some (.string s) ∧ s.data.toList = errTexts.getD i []
  ne : ∀ i j, i < 21 → j < 21 → i ≠ j → A i ≠ A j
theorem ErrsAt.ext {w w' : World} {A : Nat → Addr} (h : ErrsAt w A) (hx : Ext w w') : ErrsAt w' A :=
  ⟨fun i hi => hx.cell (h.var i hi), fun i hi => by
      obtain ⟨c, t, hc⟩ := h.blk i hi
      exact ⟨c, t, Blk.ext (t := t) (cs := c) hc hx⟩,
    fun i hi => by obtain ⟨s, h1, h2⟩ := h.txt i hi; exact ⟨s, hx.cell h1, h2⟩, h.ne⟩

def errList : List (String × Nat × List UInt8) := (List.range 21).map fun i => (errNames.getD i "", gb i, errTexts.getD i [])
def errLaid : List (String × DataW Unit) := errList.map fun x => (x.1, errD x.2.2)
theorem errs_at {W : World} (h : laidMet Tryz.prog errLaid W) : ∃ A, ErrsAt W A := by
  obtain ⟨ps, hv, hnd, hrows⟩ := h
  obtain ⟨al, hl, hi, _, hn⟩ := laid_many errList ps (by
    have hall : errList.all (fun x => decide (Tryz.prog.globalNamed x.1 = some x.2.1 ∧ (Tryz.prog.globals[x.2.1]?).map (·.type) = some 38)) = true := by kernel_rfl
    intro x hx
    exact of_decide_eq_true (List.all_eq_true.1 hall x hx)) hv hnd hrows
  have hl21 : al.length = 21 := by rw [hl]; rfl
  have hx : ∀ i, i < 21 → errList[i]? = some (errNames.getD i "", gb i, errTexts.getD i []) := fun i hi => by unfold errList; simp [hi]
  have ha : ∀ i, i < 21 → al[i]? = some (al.getD i ⟨0, 0, none⟩) := fun i hi => by rw [List.getD_eq_getElem?_getD, List.getElem?_eq_getElem (by omega)]; rfl
  refine ⟨fun i => al.getD i ⟨0, 0, none⟩, fun i h => (hi i _ _ (hx i h) (ha i h)).1, fun i h => (hi i _ _ (hx i h) (ha i h)).2.1, fun i h => (hi i _ _ (hx i h) (ha i h)).2.2, fun i j h1 h2 hne he => hne ?_⟩
  have e1 := ha i h1
  have e2 := ha j h2
  exact (List.getElem?_inj (by omega) hn).1 (e1.trans ((congrArg some he).trans e2.symm))

/-! ### errors.Is, where the target is one of them -/
theorem isTypeOf (v : Value) (w : World) : (Extern.ReflectliteType.typeOf #[.iface 142 v]).run Tryz.prog w = .ok (.iface 122 (.agg #[.pointer (some ⟨22, 142, none⟩)])) w := by kernel_rfl
/-- The model's entry for 'Comparable'. -/
def cmpEntry : Array Value → Sem Value := Extern.ReflectliteType.method fun t => do Go.Extern.Rtype.noPackHeld "Comparable" t; pure (.bool (← typeInfo t).comparable)
theorem isComparable (w : World) : (cmpEntry #[.agg #[.pointer (some ⟨22, 142, none⟩)]]).run Tryz.prog w = .ok (.bool true) w := by kernel_rfl
theorem isComp : (Tryz.prog.info? 142).map (·.comparable) = some true := by kernel_rfl
theorem isSize : (Tryz.prog.info? 167).map (·.size) = some 1 := by kernel_rfl
theorem noIsE (v : Value) (xT : TypeId) (w : World) : (Instr.typeAssert (.iface 142 v) xT 124 true).run Tryz.prog w = .ok (.tuple #[.nilIface, .bool false]) w := run_typeAssert_lacksB Tryz.underlying124 (by kernel_rfl) (by kernel_rfl) v xT w
theorem noUnwrapE (v : Value) (xT : TypeId) (w : World) : (Instr.typeAssert (.iface 142 v) xT 127 true).run Tryz.prog w = .ok (.tuple #[.nilIface, .bool false]) w := run_typeAssert_lacksB Tryz.underlying127 (by kernel_rfl) (by kernel_rfl) v xT w
theorem noUnwrapsE (v : Value) (xT : TypeId) (w : World) : (Instr.typeAssert (.iface 142 v) xT 129 true).run Tryz.prog w = .ok (.tuple #[.nilIface, .bool false]) w := run_typeAssert_lacksB Tryz.underlying129 (by kernel_rfl) (by kernel_rfl) v xT w

set_option maxRecDepth 100000 in
set_option maxHeartbeats 2000000 in
/-- errors.Is of one of them and itself. -/
theorem is_same (a : Addr) (w : World) :
    Calls Tryz.prog 30 #[errV a, errV a] w fun e w' => e = .returned (.bool true) ∧ w = w' := by
  unfold errV
  obtain ⟨i, hi, hcmp⟩ := Option.map_eq_some_iff.1 isComp
  obtain ⟨j, hj, hjs⟩ := Option.map_eq_some_iff.1 isSize
  have h8 := @run_callFunc_extern Tryz.prog 57 _ Extern.ReflectliteType.typeOf Tryz.func57 (by kernel_rfl) (by kernel_rfl) (by kernel_rfl) (by kernel_rfl)
  have h32 := @run_callFunc_extern Tryz.prog 117 _ cmpEntry Tryz.func117 (by kernel_rfl) (by kernel_rfl) (by kernel_rfl) (by kernel_rfl)
  have tT := isTypeOf
  have cT := isComparable
  have heq := run_eql_iface_ptr_same (P := Tryz.prog) w a Tryz.underlying38 Tryz.underlying142 hi hcmp hj
  go_enter Tryz.func30, Tryz.ntmps30
  go_wp2
  refine wp_loop_rounds 1 ?_
  rw [rounds_succ]
  go_wp2
  go_ret
  exact ⟨rfl, rfl⟩

set_option maxRecDepth 100000 in
set_option maxHeartbeats 2000000 in
/-- errors.Is of two different ones. -/
theorem is_other (a b : Addr) (ca cb : Array Value) (ta tb : TypeId) (w : World) (hne : a ≠ b) (ha : w.heap[a.block]? = some (.cells ca ta (0, 0))) (hb : w.heap[b.block]? = some (.cells cb tb (0, 0))) :
    Calls Tryz.prog 30 #[errV a, errV b] w fun e w' => e = .returned (.bool false) ∧ w = w' := by
  unfold errV
  obtain ⟨i, hi, hcmp⟩ := Option.map_eq_some_iff.1 isComp
  obtain ⟨j, hj, hjs⟩ := Option.map_eq_some_iff.1 isSize
  have h8 := @run_callFunc_extern Tryz.prog 57 _ Extern.ReflectliteType.typeOf Tryz.func57 (by kernel_rfl) (by kernel_rfl) (by kernel_rfl) (by kernel_rfl)
  have h32 := @run_callFunc_extern Tryz.prog 117 _ cmpEntry Tryz.func117 (by kernel_rfl) (by kernel_rfl) (by kernel_rfl) (by kernel_rfl)
  have tT := isTypeOf
  have cT := isComparable
  have nE := noIsE
  have uE := noUnwrapE
  have vE := noUnwrapsE
  have heq := run_eql_iface_ptr_other (P := Tryz.prog) w Tryz.underlying38 Tryz.underlying142 hi hcmp hj (by rw [hjs]; decide) hne ha hb
  go_enter Tryz.func30, Tryz.ntmps30
  go_wp2
  refine wp_loop_rounds 1 ?_
  rw [rounds_succ]
  go_wp2
  go_ret
  exact ⟨rfl, rfl⟩

end Go.Proofs.YtgfknlkpdiejgaaGreatDoor
