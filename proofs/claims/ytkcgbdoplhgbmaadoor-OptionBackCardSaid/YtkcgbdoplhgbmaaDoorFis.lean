/- errors.Is of an error in links; the links' own methods. Condition: how the error lies in memory. -/
import Derived.Test.YtkcgbdoplhgbmaaDoorChn
import Derived.Deep.LoopGhost
namespace Go.Proofs.YtkcgbdoplhgbmaaDoor
open Go Go.RowKit Go.Extern.Stop Go.Stop Go.Extern

theorem noIsF (v : Value) (xT : TypeId) (w : World) : (Instr.typeAssert (.iface 100 v) xT 150 true).run Tryd.prog w = .ok (.tuple #[.nilIface, .bool false]) w := run_typeAssert_lacksB Tryd.underlying150 (by kernel_rfl) (by kernel_rfl) v xT w
theorem noIsLs (v : Value) (xT : TypeId) (w : World) : (Instr.typeAssert (.iface 94 v) xT 150 true).run Tryd.prog w = .ok (.tuple #[.nilIface, .bool false]) w := run_typeAssert_lacksB Tryd.underlying150 (by kernel_rfl) (by kernel_rfl) v xT w
theorem hasUnF (v : Value) (xT : TypeId) (w : World) : (Instr.typeAssert (.iface 100 v) xT 105 true).run Tryd.prog w = .ok (.tuple #[.iface 100 v, .bool true]) w := run_typeAssert_hasB Tryd.underlying105 (by kernel_rfl) v xT w
theorem hasUnL (v : Value) (xT : TypeId) (w : World) : (Instr.typeAssert (.iface 94 v) xT 105 true).run Tryd.prog w = .ok (.tuple #[.iface 94 v, .bool true]) w := run_typeAssert_hasB Tryd.underlying105 (by kernel_rfl) v xT w
theorem methUnF (v : Value) (w : World) : (Go.method 105 100 v "Unwrap").run Tryd.prog w = .ok (173, v) w := by kernel_rfl
theorem methUnL (v : Value) (w : World) : (Go.method 105 94 v "Unwrap").run Tryd.prog w = .ok (171, v) w := by kernel_rfl

/-- What a link holds. -/
theorem unwrapF_any (g : Nat) (n : Int) (v : Value) (w : World) (hb : Blk w g 103 #[.int .i64 n, v]) :
    Calls Tryd.prog 173 #[.pointer (some ⟨g, 0, none⟩)] w fun e w' => e = .returned v ∧ w = w' := by
  have c1 : w.cell? ⟨g, 1, none⟩ = some v := hb.cell 1
  go_enter Tryd.func173, Tryd.ntmps173
  go_wp2
  go_ret
  exact ⟨rfl, rfl⟩
theorem unwrapL_any (g : Nat) (n : Int) (v : Value) (w : World) (hb : Blk w g 98 #[.int .i64 n, v]) :
    Calls Tryd.prog 171 #[.pointer (some ⟨g, 0, none⟩)] w fun e w' => e = .returned v ∧ w = w' := by
  have c1 : w.cell? ⟨g, 1, none⟩ = some v := hb.cell 1
  go_enter Tryd.func171, Tryd.ntmps171
  go_wp2
  go_ret
  exact ⟨rfl, rfl⟩

set_option maxRecDepth 100000 in
set_option maxHeartbeats 2000000 in
/-- errors.is: the innermost one is asked. -/
theorem is_loop (l : List (Bool × Int)) (a b : Addr) (v : Value) (w : World) (hv : Chn w l (errV a) v) (ha : ∃ c t, w.heap[a.block]? = some (.cells c t (0, 0))) (hb : ∃ c t, w.heap[b.block]? = some (.cells c t (0, 0))) :
    Calls Tryd.prog 89 #[v, errV b, .bool true] w fun e w' => e = .returned (.bool (decide (a = b))) ∧ w = w' := by
  obtain ⟨i, hi, hcmp⟩ := Option.map_eq_some_iff.1 isComp
  obtain ⟨j, hj, hjs⟩ := Option.map_eq_some_iff.1 isSize
  obtain ⟨ca, ta, ha⟩ := ha
  obtain ⟨cb, tb, hb⟩ := hb
  have HEQ := Lib.hid (fun (h : a = b) => (by subst h; exact run_eql_iface_ptr_same (P := Tryd.prog) w a Tryd.underlying32 Tryd.underlying138 hi hcmp hj : (binOp .eql 32 (errV a) (errV b)).run Tryd.prog w = .ok (.bool true) w))
  have HNE := Lib.hid (fun (h : a ≠ b) => (run_eql_iface_ptr_other (P := Tryd.prog) w Tryd.underlying32 Tryd.underlying138 hi hcmp hj (by rw [hjs]; decide) h ha hb : (binOp .eql 32 (errV a) (errV b)).run Tryd.prog w = .ok (.bool false) w))
  have HV := Lib.hid hv
  clear hv ha hb hi hj hcmp hjs
  unfold errV at *
  go_enter Tryd.func89, Tryd.ntmps89
  go_upto_region 1 with fail
  go_loopg [0] l.length (fun k v' wr => ∃ l', l'.length = k ∧ Hid (Chn w l' (.iface 138 (.pointer (some a))) v') ∧ w = wr)
  case atStart => exact ⟨l, rfl, HV, rfl⟩
  case round =>
    obtain ⟨l', hl, HC, rfl⟩ := hrel
    cases l' with
    | nil =>
      obtain rfl := HC.out
      by_cases hab : a = b
      · have heq := HEQ.out hab
        have HR := Lib.hid hab
        clear HEQ HNE HV HC hab hl
        go_wp2
        go_ret
        exact ⟨by rw [decide_eq_true HR.out]; rfl, rfl⟩
      · have heq := HNE.out hab
        have HR := Lib.hid hab
        have nE := noIsE
        have uE := noUnwrapE
        have vE := noUnwrapsE
        clear HEQ HNE HV HC hab hl
        go_wp2
        go_ret
        exact ⟨by rw [decide_eq_false HR.out]; rfl, rfl⟩
    | cons x r =>
      obtain ⟨i, n⟩ := x
      obtain ⟨g, v', rfl, hb, hc⟩ := HC.out
      obtain ⟨tv, xv, rfl⟩ := hc.isIf ⟨_, _, rfl⟩
      have HC2 := Lib.hid hc
      have hgk : r.length < gk := by rw [← hl]; simp
      clear HEQ HNE HV HC hc hl
      cases i
      · have hty := run_eql_iface_types (P := Tryd.prog) 100 138 (.pointer (some ⟨g, 0, none⟩)) (.pointer (some b)) Tryd.underlying32 (by decide) w
        have nE := noIsF
        have uE := hasUnF
        have mE := methUnF
        have HU := Lib.hid (unwrapF_any g n (.iface tv xv) w hb)
        simp only [lkT, Bool.false_eq_true, if_false] at *
        clear hb
        go_wp2_with (go_at_call 173; refine HU.out.mono ?_; rintro e w5 ⟨rfl, rfl⟩)
        go_roundg r.length
        case measure => exact hgk
        case rel => exact ⟨r, rfl, HC2, rfl⟩
      · have hty := run_eql_iface_types (P := Tryd.prog) 94 138 (.pointer (some ⟨g, 0, none⟩)) (.pointer (some b)) Tryd.underlying32 (by decide) w
        have nE := noIsLs
        have uE := hasUnL
        have mE := methUnL
        have HU := Lib.hid (unwrapL_any g n (.iface tv xv) w hb)
        simp only [lkT, if_true] at *
        clear hb
        go_wp2_with (go_at_call 171; refine HU.out.mono ?_; rintro e w5 ⟨rfl, rfl⟩)
        go_roundg r.length
        case measure => exact hgk
        case rel => exact ⟨r, rfl, HC2, rfl⟩

set_option maxRecDepth 100000 in
set_option maxHeartbeats 2000000 in
/-- errors.Is of an error in links and one of the error values. -/
theorem is_chn (l : List (Bool × Int)) (a b : Addr) (v : Value) (w : World) (hv : Chn w l (errV a) v) (ha : ∃ c t, w.heap[a.block]? = some (.cells c t (0, 0))) (hb : ∃ c t, w.heap[b.block]? = some (.cells c t (0, 0))) :
    Calls Tryd.prog 63 #[v, errV b] w fun e w' => e = .returned (.bool (decide (a = b))) ∧ w = w' := by
  have HL := Lib.hid (is_loop l a b v w hv ha hb)
  obtain ⟨tv, xv, rfl⟩ := hv.isIf ⟨_, _, rfl⟩
  have h8 := @run_callFunc_extern Tryd.prog 88 _ Extern.ReflectliteType.typeOf Tryd.func88 (by kernel_rfl) (by kernel_rfl) (by kernel_rfl) (by kernel_rfl)
  have h32 := @run_callFunc_extern Tryd.prog 181 _ cmpEntry Tryd.func181 (by kernel_rfl) (by kernel_rfl) (by kernel_rfl) (by kernel_rfl)
  have tT := isTypeOf
  have cT := isComparable
  clear hv ha hb
  generalize decide (a = b) = res at *
  unfold errV at *
  go_enter Tryd.func63, Tryd.ntmps63
  go_wp2_with (go_at_call 89; refine HL.out.mono ?_; rintro e w5 ⟨rfl, rfl⟩)
  go_ret
  exact ⟨rfl, rfl⟩

end Go.Proofs.YtkcgbdoplhgbmaaDoor
