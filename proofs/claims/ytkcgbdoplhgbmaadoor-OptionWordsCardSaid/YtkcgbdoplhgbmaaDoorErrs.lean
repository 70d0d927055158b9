/- The program's 21 error values as a walk meets them: where they lie, that they are different, what errors.Is and trawlnum.Num answer of them. No condition but that the row's listed variables hold what the row lists. -/
import Derived.Test.YtkcgbdoplhgbmaaDoorProg
import Derived.Test.YtkcgbdoplhgbmaaDoorLib
import Derived.LaidEql
import Derived.Stop.Asserts
import Derived.Stop.LaidErr
import Derived.RowKitTokens
namespace Go.Proofs.YtkcgbdoplhgbmaaDoor
open Go.RowKit Go.Extern.Stop Go.Stop Go.Extern

/-- The variables' blocks, their names, their texts. -/
def gbs : List Nat := [0, 1, 2, 3, 4, 5, 6, 7, 8, 9, 10, 11, 12, 13, 14, 15, 16, 17, 18, 19, 20]
def gb (i : Nat) : Nat := gbs.getD i 0
def errNames : List String := ["trawl/api.ErrBracket", "trawl/api.ErrParen", "trawl/api.ErrBrace", "trawl/api.ErrCount", "trawl/api.ErrRange", "trawl/api.ErrClass", "trawl/api.ErrCollate", "trawl/api.ErrEscape", "trawl/api.ErrRepeat", "trawl/api.ErrTooBig", "trawl/api.ErrNest", "trawl/api.ErrLong", "trawl/api.ErrTree", "trawl/api.ErrDeep", "trawl/api.ErrArgument", "trawl/api.ErrNoMatch", "trawl/api.ErrImage", "trawl/api.ErrMany", "trawl/api.ErrOption", "trawl/api.ErrCommand", "trawl/api.ErrClosed"]
def errTexts : List (List UInt8) := [[116, 114, 97, 119, 108, 58, 32, 98, 114, 97, 99, 107, 101, 116],
  [116, 114, 97, 119, 108, 58, 32, 112, 97, 114, 101, 110, 116, 104, 101, 115, 105, 115],
  [116, 114, 97, 119, 108, 58, 32, 98, 114, 97, 99, 101],
  [116, 114, 97, 119, 108, 58, 32, 99, 111, 117, 110, 116],
  [116, 114, 97, 119, 108, 58, 32, 114, 97, 110, 103, 101],
  [116, 114, 97, 119, 108, 58, 32, 99, 108, 97, 115, 115],
  [116, 114, 97, 119, 108, 58, 32, 99, 111, 108, 108, 97, 116, 105, 110, 103],
  [116, 114, 97, 119, 108, 58, 32, 101, 115, 99, 97, 112, 101],
  [116, 114, 97, 119, 108, 58, 32, 114, 101, 112, 101, 97, 116],
  [116, 114, 97, 119, 108, 58, 32, 116, 111, 111, 32, 98, 105, 103],
  [116, 114, 97, 119, 108, 58, 32, 110, 101, 115, 116, 105, 110, 103],
  [116, 114, 97, 119, 108, 58, 32, 108, 111, 110, 103],
  [116, 114, 97, 119, 108, 58, 32, 116, 114, 101, 101],
  [116, 114, 97, 119, 108, 58, 32, 100, 101, 101, 112],
  [116, 114, 97, 119, 108, 58, 32, 97, 114, 103, 117, 109, 101, 110, 116],
  [116, 114, 97, 119, 108, 58, 32, 110, 111, 32, 109, 97, 116, 99, 104],
  [116, 114, 97, 119, 108, 58, 32, 105, 109, 97, 103, 101],
  [116, 114, 97, 119, 108, 58, 32, 109, 97, 110, 121],
  [116, 114, 97, 119, 108, 58, 32, 111, 112, 116, 105, 111, 110],
  [116, 114, 97, 119, 108, 58, 32, 99, 111, 109, 109, 97, 110, 100],
  [116, 114, 97, 119, 108, 58, 32, 99, 108, 111, 115, 101, 100]]
def errD (t : List UInt8) : DataW Unit := .iface "*errors.errorString" (.ptr (.agg [.lit (.string t)]))

/-- An error value. -/
def errV (a : Addr) : Value := .iface 138 (.pointer (some a))
structure ErrsAt (w : World) (A : Nat → Addr) : Prop where
  var : ∀ i, i < 21 → w.cell? ⟨gb i, 0, none⟩ = some (errV (A i))
  blk : ∀ i, i < 21 → ∃ c t, w.heap[(A i).block]? = some (.cells c t (0, 0))
  txt : ∀ i, i < 21 → ∃ s, w.cell? (A i) = some (.string s) ∧ s.data.toList = errTexts.getD i []
  ne : ∀ i j, i < 21 → j < 21 → i ≠ j → A i ≠ A j
theorem ErrsAt.ext {w w' : World} {A : Nat → Addr} (h : ErrsAt w A) (hx : Ext w w') : ErrsAt w' A :=
  ⟨fun i hi => hx.cell (h.var i hi), fun i hi => by
      obtain ⟨c, t, hc⟩ := h.blk i hi
      exact ⟨c, t, Blk.ext (t := t) (cs := c) hc hx⟩,
    fun i hi => by obtain ⟨s, h1, h2⟩ := h.txt i hi; exact ⟨s, hx.cell h1, h2⟩, h.ne⟩

/-! ### from the row's list to the walk's facts -/
theorem errStar : ("*errors.errorString" : String) = "*" ++ "errors.errorString" := by decide
theorem errRow (u : TypeId) (h : Tryd.prog.typeName? 3 u = some "*errors.errorString") : u = 138 :=
  typeName_ptr_named (nm := "errors.errorString") (by rw [← errStar]; kernel_rfl) (by kernel_rfl) (by decide) u (by rw [← errStar]; exact h)
theorem errUnder : ∃ f, Tryd.prog.underlying 140 = some (.struct #[f]) ∧ f.type = 9 ∧ f.offset = 0 := ⟨_, Tryd.underlying140, rfl, rfl⟩
theorem errCells : Tryd.prog.cellsOf 140 = 1 := by kernel_rfl
theorem strCells : Tryd.prog.cellsOf 9 = 1 := by kernel_rfl

set_option maxRecDepth 100000 in
/-- One sentinel after another: the pointers, and that each place is met once. -/
theorem laid_many {W : World} : ∀ (ns : List (String × Nat × List UInt8)) (ps : List MemPlace),
    (∀ x ∈ ns, Tryd.prog.globalNamed x.1 = some x.2.1 ∧ (Tryd.prog.globals[x.2.1]?).map (·.type) = some 32) →
    DataW.LaidVars Tryd.prog W (ns.map fun x => (x.1, errD x.2.2)) ps → ps.Nodup →
    (∀ b off, MemPlace.cell b off ∈ ps → (∃ c t, W.heap[b]? = some (.cells c t (0, 0))) ∧ ∀ u v, W.cell? ⟨b, off, none⟩ = some (.iface u v) → Value.okWide Tryd.prog W .any 0 u v) →
    ∃ al : List Addr, al.length = ns.length ∧ (∀ (i : Nat) x a, ns[i]? = some x → al[i]? = some a → W.cell? ⟨x.2.1, 0, none⟩ = some (errV a) ∧ (∃ c t, W.heap[a.block]? = some (.cells c t (0, 0))) ∧ ∃ s, W.cell? a = some (.string s) ∧ s.data.toList = x.2.2) ∧
      (∀ a ∈ al, MemPlace.cell a.block a.off ∈ ps) ∧ al.Nodup
  | [], ps, _, _, _, _ => ⟨[], rfl, fun i x a h => by simp at h, fun a h => by simp at h, List.nodup_nil⟩
  | x :: ns, ps, hg, h, hnd, hrows => by
    obtain ⟨g, t, cs, fuel, p, q, hg0, ht0, hv0, hd0, hq, rfl⟩ := h
    obtain ⟨e1, e2⟩ := hg x (by simp)
    obtain rfl := Option.some.inj (e1.symm.trans hg0)
    obtain rfl := Option.some.inj (e2.symm.trans ht0)
    obtain ⟨l0⟩ := cs
    have ok0 : ∀ u v, l0 = [.iface u v] → Value.okWide Tryd.prog W .any 0 u v := fun u v e => by
      subst e
      exact (hrows x.2.1 0 (by simp [MemPlace.row])).2 u v (by simpa using World.var?_cell hg0 hv0 0)
    obtain ⟨f, hu, hft, hfo⟩ := errUnder
    obtain ⟨a, s, rfl, hc, hs, hz, rfl⟩ := errorString_of_trod Tryd.underlying32 errRow Tryd.underlying138 hu hft hfo Tryd.underlying9 errCells strCells hd0 ok0
    obtain ⟨al, hl, hi, hm, hn⟩ := laid_many ns q (fun y hy => hg y (by simp [hy])) hq (List.Nodup.sublist (List.sublist_append_right _ _) hnd) (fun b off hb => hrows b off (by simp [hb]))
    refine ⟨a :: al, by simp [hl], fun i y b hy hb => ?_, fun b hb => ?_, ?_⟩
    · cases i with
      | zero =>
        simp only [List.getElem?_cons_zero, Option.some.injEq] at hy hb
        subst hy hb
        exact ⟨by simpa [errV] using World.var?_cell hg0 hv0 0, (hrows a.block a.off (by simp [MemPlace.row])).1, s, hc, hs⟩
      | succ i => exact hi i y b (by simpa using hy) (by simpa using hb)
    · rcases List.mem_cons.1 hb with rfl | hb
      · simp [MemPlace.row]
      · exact List.mem_append_right _ (hm b hb)
    · rw [List.nodup_cons]
      refine ⟨fun hin => ?_, hn⟩
      have hin2 := hm a hin
      have hd := (List.nodup_append.1 hnd).2.2
      exact hd (MemPlace.cell a.block a.off) (by simp [MemPlace.row]) _ hin2 rfl

def errList : List (String × Nat × List UInt8) := (List.range 21).map fun i => (errNames.getD i "", gb i, errTexts.getD i [])
def errLaid : List (String × DataW Unit) := errList.map fun x => (x.1, errD x.2.2)
theorem errs_at {W : World} (h : laidMet Tryd.prog errLaid W) : ∃ A, ErrsAt W A := by
  obtain ⟨ps, hv, hnd, hrows⟩ := h
  obtain ⟨al, hl, hi, _, hn⟩ := laid_many errList ps (by
    have hall : errList.all (fun x => decide (Tryd.prog.globalNamed x.1 = some x.2.1 ∧ (Tryd.prog.globals[x.2.1]?).map (·.type) = some 32)) = true := by kernel_rfl
    intro x hx
    exact of_decide_eq_true (List.all_eq_true.1 hall x hx)) hv hnd hrows
  have hl21 : al.length = 21 := by rw [hl]; rfl
  have hx : ∀ i, i < 21 → errList[i]? = some (errNames.getD i "", gb i, errTexts.getD i []) := fun i hi => by unfold errList; simp [hi]
  have ha : ∀ i, i < 21 → al[i]? = some (al.getD i ⟨0, 0, none⟩) := fun i hi => by rw [List.getD_eq_getElem?_getD, List.getElem?_eq_getElem (by omega)]; rfl
  refine ⟨fun i => al.getD i ⟨0, 0, none⟩, fun i h => (hi i _ _ (hx i h) (ha i h)).1, fun i h => (hi i _ _ (hx i h) (ha i h)).2.1, fun i h => (hi i _ _ (hx i h) (ha i h)).2.2, fun i j h1 h2 hne he => hne ?_⟩
  have e1 := ha i h1
  have e2 := ha j h2
  exact (List.getElem?_inj (by omega) hn).1 (e1.trans ((congrArg some he).trans e2.symm))

/-! ### errors.Is, where the target is one of them -/
theorem isTypeOf (v : Value) (w : World) : (Extern.ReflectliteType.typeOf #[.iface 138 v]).run Tryd.prog w = .ok (.iface 148 (.agg #[.pointer (some ⟨28, 138, none⟩)])) w := by kernel_rfl
/-- The model's entry for 'Comparable'. -/
def cmpEntry : Array Value → Sem Value := Extern.ReflectliteType.method fun t => do Go.Extern.Rtype.noPackHeld "Comparable" t; pure (.bool (← typeInfo t).comparable)
theorem isComparable (w : World) : (cmpEntry #[.agg #[.pointer (some ⟨28, 138, none⟩)]]).run Tryd.prog w = .ok (.bool true) w := by kernel_rfl
theorem isComp : (Tryd.prog.info? 138).map (·.comparable) = some true := by kernel_rfl
theorem isSize : (Tryd.prog.info? 140).map (·.size) = some 1 := by kernel_rfl
theorem noIsE (v : Value) (xT : TypeId) (w : World) : (Instr.typeAssert (.iface 138 v) xT 150 true).run Tryd.prog w = .ok (.tuple #[.nilIface, .bool false]) w := run_typeAssert_lacksB Tryd.underlying150 (by kernel_rfl) (by kernel_rfl) v xT w
theorem noUnwrapE (v : Value) (xT : TypeId) (w : World) : (Instr.typeAssert (.iface 138 v) xT 105 true).run Tryd.prog w = .ok (.tuple #[.nilIface, .bool false]) w := run_typeAssert_lacksB Tryd.underlying105 (by kernel_rfl) (by kernel_rfl) v xT w
theorem noUnwrapsE (v : Value) (xT : TypeId) (w : World) : (Instr.typeAssert (.iface 138 v) xT 153 true).run Tryd.prog w = .ok (.tuple #[.nilIface, .bool false]) w := run_typeAssert_lacksB Tryd.underlying153 (by kernel_rfl) (by kernel_rfl) v xT w

set_option maxRecDepth 100000 in
set_option maxHeartbeats 2000000 in
/-- errors.Is of one of them and itself. -/
theorem is_same (a : Addr) (w : World) :
    Calls Tryd.prog 63 #[errV a, errV a] w fun e w' => e = .returned (.bool true) ∧ w = w' := by
  unfold errV
  obtain ⟨i, hi, hcmp⟩ := Option.map_eq_some_iff.1 isComp
  obtain ⟨j, hj, hjs⟩ := Option.map_eq_some_iff.1 isSize
  have h8 := @run_callFunc_extern Tryd.prog 88 _ Extern.ReflectliteType.typeOf Tryd.func88 (by kernel_rfl) (by kernel_rfl) (by kernel_rfl) (by kernel_rfl)
  have h32 := @run_callFunc_extern Tryd.prog 181 _ cmpEntry Tryd.func181 (by kernel_rfl) (by kernel_rfl) (by kernel_rfl) (by kernel_rfl)
  have tT := isTypeOf
  have cT := isComparable
  have heq := run_eql_iface_ptr_same (P := Tryd.prog) w a Tryd.underlying32 Tryd.underlying138 hi hcmp hj
  go_enter Tryd.func63, Tryd.ntmps63
  go_wp2
  refine wp_loop_rounds 1 ?_
  rw [rounds_succ]
  go_wp2
  go_ret
  exact ⟨rfl, rfl⟩

set_option maxRecDepth 100000 in
set_option maxHeartbeats 2000000 in
/-- errors.Is of two different ones. -/
theorem is_other (a b : Addr) (ca cb : Array Value) (ta tb : TypeId) (w : World) (hne : a ≠ b) (ha : w.heap[a.block]? = some (.cells ca ta (0, 0))) (hb : w.heap[b.block]? = some (.cells cb tb (0, 0))) :
    Calls Tryd.prog 63 #[errV a, errV b] w fun e w' => e = .returned (.bool false) ∧ w = w' := by
  unfold errV
  obtain ⟨i, hi, hcmp⟩ := Option.map_eq_some_iff.1 isComp
  obtain ⟨j, hj, hjs⟩ := Option.map_eq_some_iff.1 isSize
  have h8 := @run_callFunc_extern Tryd.prog 88 _ Extern.ReflectliteType.typeOf Tryd.func88 (by kernel_rfl) (by kernel_rfl) (by kernel_rfl) (by kernel_rfl)
  have h32 := @run_callFunc_extern Tryd.prog 181 _ cmpEntry Tryd.func181 (by kernel_rfl) (by kernel_rfl) (by kernel_rfl) (by kernel_rfl)
  have tT := isTypeOf
  have cT := isComparable
  have nE := noIsE
  have uE := noUnwrapE
  have vE := noUnwrapsE
  have heq := run_eql_iface_ptr_other (P := Tryd.prog) w Tryd.underlying32 Tryd.underlying138 hi hcmp hj (by rw [hjs]; decide) hne ha hb
  go_enter Tryd.func63, Tryd.ntmps63
  go_wp2
  refine wp_loop_rounds 1 ?_
  rw [rounds_succ]
  go_wp2
  go_ret
  exact ⟨rfl, rfl⟩

end Go.Proofs.YtkcgbdoplhgbmaaDoor
