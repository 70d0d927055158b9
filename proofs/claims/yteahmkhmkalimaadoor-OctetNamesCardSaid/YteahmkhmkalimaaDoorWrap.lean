/- A named error in a Fault in a Listed: texts, Unwrap, errors.Is. Conditions: where the error lies. -/
import Derived.Test.YteahmkhmkalimaaDoorErrs
namespace Go.Proofs.YteahmkhmkalimaaDoor
open Go.RowKit

def fltV (gf : Nat) : Value := .pointer (some ⟨gf, 0, none⟩)
def fltI (gf : Nat) : Value := .iface 59 (.pointer (some ⟨gf, 0, none⟩))
def lstI (gl : Nat) : Value := .iface 62 (.pointer (some ⟨gl, 0, none⟩))

set_option maxRecDepth 100000 in
theorem fault_unwrap (a : Addr) (gf : Nat) (i : Int) (w : World) (hf : Blk w gf 61 #[.int .i64 i, errV a]) :
    Calls Tryd.prog 41 #[fltV gf] w fun e w' => e = .returned (errV a) ∧ w = w' := by
  unfold fltV
  have c1 : w.cell? ⟨gf, 1, none⟩ = some (errV a) := hf.cell 1
  have c0 : w.cell? ⟨gf, 0, none⟩ = some (.int .i64 i) := hf.cell 0
  unfold errV at *
  go_enter Tryd.func41, Tryd.ntmps41
  go_wp2
  go_ret
  exact ⟨rfl, rfl⟩

set_option maxRecDepth 100000 in
theorem listed_unwrap (gf gl : Nat) (i : Int) (w : World) (hl : Blk w gl 64 #[.int .i64 i, fltI gf]) :
    Calls Tryd.prog 67 #[fltV gl] w fun e w' => e = .returned (fltI gf) ∧ w = w' := by
  unfold fltV
  have c1 : w.cell? ⟨gl, 1, none⟩ = some (fltI gf) := hl.cell 1
  have c0 : w.cell? ⟨gl, 0, none⟩ = some (.int .i64 i) := hl.cell 0
  unfold fltI at *
  go_enter Tryd.func67, Tryd.ntmps67
  go_wp2
  go_ret
  exact ⟨rfl, rfl⟩

set_option maxRecDepth 100000 in
theorem err_text (a : Addr) (s : ByteArray) (w : World) (hc : w.cell? a = some (.string s)) :
    Calls Tryd.prog 80 #[.pointer (some a)] w fun e w' => e = .returned (.string s) ∧ w = w' := by
  go_enter Tryd.func80, Tryd.ntmps80
  go_wp2
  go_ret
  exact ⟨rfl, rfl⟩

set_option maxRecDepth 100000 in
theorem fault_text (a : Addr) (s : ByteArray) (gf : Nat) (i : Int) (w : World) (hf : Blk w gf 61 #[.int .i64 i, errV a]) (hc : w.cell? a = some (.string s)) :
    Calls Tryd.prog 66 #[fltV gf] w fun e w' => e = .returned (.string s) ∧ w = w' := by
  unfold fltV
  have c1 : w.cell? ⟨gf, 1, none⟩ = some (errV a) := hf.cell 1
  have c0 : w.cell? ⟨gf, 0, none⟩ = some (.int .i64 i) := hf.cell 0
  have HE := Lib.hid (err_text a s w hc)
  unfold errV at *
  go_enter Tryd.func66, Tryd.ntmps66
  go_wp2_with (go_at_call 80; refine HE.out.mono ?_; rintro e w1 ⟨rfl, rfl⟩)
  go_ret
  exact ⟨rfl, rfl⟩

set_option maxRecDepth 100000 in
theorem listed_text (a : Addr) (s : ByteArray) (gf gl : Nat) (i : Int) (w : World) (hl : Blk w gl 64 #[.int .i64 i, fltI gf]) (hf : Blk w gf 61 #[.int .i64 i, errV a]) (hc : w.cell? a = some (.string s)) :
    Calls Tryd.prog 42 #[fltV gl] w fun e w' => e = .returned (.string s) ∧ w = w' := by
  have HE := Lib.hid (fault_text a s gf i w hf hc)
  unfold fltV at *
  have c1 : w.cell? ⟨gl, 1, none⟩ = some (fltI gf) := hl.cell 1
  have c0 : w.cell? ⟨gl, 0, none⟩ = some (.int .i64 i) := hl.cell 0
  unfold fltI at *
  clear hf hl
  go_enter Tryd.func42, Tryd.ntmps42
  go_wp2_with (go_at_call 66; refine HE.out.mono ?_; rintro e w1 ⟨rfl, rfl⟩)
  go_ret
  exact ⟨rfl, rfl⟩

theorem noIsL (v : Value) (xT : TypeId) (w : World) : (Instr.typeAssert (.iface 62 v) xT 80 true).run Tryd.prog w = .ok (.tuple #[.nilIface, .bool false]) w := run_typeAssert_lacksB Tryd.underlying80 (by kernel_rfl) (by kernel_rfl) v xT w
theorem noIsF (v : Value) (xT : TypeId) (w : World) : (Instr.typeAssert (.iface 59 v) xT 80 true).run Tryd.prog w = .ok (.tuple #[.nilIface, .bool false]) w := run_typeAssert_lacksB Tryd.underlying80 (by kernel_rfl) (by kernel_rfl) v xT w
theorem unwrapL (v : Value) (xT : TypeId) (w : World) : (Instr.typeAssert (.iface 62 v) xT 83 true).run Tryd.prog w = .ok (.tuple #[.iface 62 v, .bool true]) w := run_typeAssert_hasB Tryd.underlying83 (by kernel_rfl) v xT w
theorem unwrapF (v : Value) (xT : TypeId) (w : World) : (Instr.typeAssert (.iface 59 v) xT 83 true).run Tryd.prog w = .ok (.tuple #[.iface 59 v, .bool true]) w := run_typeAssert_hasB Tryd.underlying83 (by kernel_rfl) v xT w

set_option maxRecDepth 100000 in
set_option maxHeartbeats 2000000 in
/-- errors.Is of a Listed around a Fault around one of them, and that one. -/
theorem is_listed (a : Addr) (gf gl : Nat) (k : Int) (w : World) (hl : Blk w gl 64 #[.int .i64 k, fltI gf]) (hf : Blk w gf 61 #[.int .i64 k, errV a]) :
    Calls Tryd.prog 43 #[lstI gl, errV a] w fun e w' => e = .returned (.bool true) ∧ w = w' := by
  have HL := Lib.hid (listed_unwrap gf gl k w hl)
  have HF := Lib.hid (fault_unwrap a gf k w hf)
  unfold errV lstI fltI fltV at *
  obtain ⟨i, hi, hcmp⟩ := Option.map_eq_some_iff.1 isComp
  obtain ⟨j, hj, hjs⟩ := Option.map_eq_some_iff.1 isSize
  have h8 := @run_callFunc_extern Tryd.prog 48 _ Extern.ReflectliteType.typeOf Tryd.func48 (by kernel_rfl) (by kernel_rfl) (by kernel_rfl) (by kernel_rfl)
  have h32 := @run_callFunc_extern Tryd.prog 71 _ cmpEntry Tryd.func71 (by kernel_rfl) (by kernel_rfl) (by kernel_rfl) (by kernel_rfl)
  have tT := isTypeOf
  have cT := isComparable
  have nL := noIsL
  have nF := noIsF
  have uL := unwrapL
  have uF := unwrapF
  have e1 := fun (va vb : Value) => run_eql_iface_types (P := Tryd.prog) 62 86 va vb Tryd.underlying36 (by decide) w
  have e2 := fun (va vb : Value) => run_eql_iface_types (P := Tryd.prog) 59 86 va vb Tryd.underlying36 (by decide) w
  have heq := run_eql_iface_ptr_same (P := Tryd.prog) w a Tryd.underlying36 Tryd.underlying86 hi hcmp hj
  clear hl hf
  go_enter Tryd.func43, Tryd.ntmps43
  go_wp2
  refine wp_loop_rounds 3 ?_
  rw [rounds_succ]
  go_wp2_with (go_at_call 67; refine HL.out.mono ?_; rintro e w1 ⟨rfl, rfl⟩)
  rw [rounds_succ]
  go_wp2_with (go_at_call 41; refine HF.out.mono ?_; rintro e w1 ⟨rfl, rfl⟩)
  rw [rounds_succ]
  go_wp2
  go_ret
  exact ⟨rfl, rfl⟩

end Go.Proofs.YteahmkhmkalimaaDoor
