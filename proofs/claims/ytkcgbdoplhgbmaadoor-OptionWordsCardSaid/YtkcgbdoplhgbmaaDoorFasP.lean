/- errors.As: what both targets need. No condition. -/
import Derived.Test.YtkcgbdoplhgbmaaDoorFis
namespace Go.Proofs.YtkcgbdoplhgbmaaDoor
open Go Go.RowKit Go.Extern.Stop Go.Stop Go.Extern

/-- What errors.As leaves: the outermost link of the kind in the target's block; or nothing has turned. -/
def AsGot (k : Bool) (T : Nat) (w w' : World) : Option Int → Prop
  | none => Ext w w'
  | some n => Keeps (· = T) w w' ∧ ∃ g v', Blk w' T (lkT k) #[.pointer (some ⟨g, 0, none⟩)] ∧ Blk w' g (lkS k) #[.int .i64 n, v']
theorem AsGot.of {k : Bool} {T : Nat} {w w1 w' : World} {o : Option Int} (hx : Ext w w1) (h : AsGot k T w1 w' o) (_ : T < w.heap.size) : AsGot k T w w' o := by
  cases o with
  | none => exact hx.trans h
  | some n => exact ⟨(Keeps.of_ext (F := fun i => i = T) hx).trans h.1 (fun _ _ hf => hf), h.2⟩
/-- What the package errors' own variable holds: the handle of the type error. -/
def errTV : Value := .iface 148 (.agg #[.pointer (some ⟨28, 32, none⟩)])
theorem asRlm (z : Sem Value) (f : TypeId → Addr → Nat → Nat → Sem Value) (v : Value) :
    ReflectliteValue.method z f #[v] = (do match ← ReflectliteValue.parts v with | none => z | some (t, a, fl) => f t a fl (fl % 32)) := rfl
theorem asRls (v x : Value) : ReflectliteValue.set #[v, x] = (do
    let (some (dst, a, fl), some (src, b, _)) := (← ReflectliteValue.parts v, ← ReflectliteValue.parts x)
      | unsupported (.noEntry "extern/(internal/reflectlite.Value).Set.zeroValue")
    if fl / ReflectliteValue.flagAddr % 2 == 0 then unsupported (.noEntry "extern/(internal/reflectlite.Value).Set.unaddressable")
    let val ← loadVar src b
    if ← Rtype.directlyAssignable dst src then storeVar dst a val
    else if ← Rtype.implements dst src then
      if (← Rtype.kind src) == 20 then
        match val with
        | .nilIface => unsupported (.noEntry "extern/reflectlite: a nil value of one interface type handed on as a value of another")
        | _ => storeVar dst a val
      else storeVar dst a (.iface src val)
    else panicString ("reflectlite.Set: value of type " ++ (← Rtype.spelt src) ++ " is not assignable to type " ++ (← Rtype.spelt dst))
    pure (.tuple #[])) := rfl
theorem asMethodKind (h : Value) (w : World) : (Go.method 120 148 (.agg #[h]) "Kind").run Tryd.prog w = .ok (167, h) w := by kernel_rfl
theorem asMethodElem (h : Value) (w : World) : (Go.method 120 148 (.agg #[h]) "Elem").run Tryd.prog w = .ok (182, .agg #[h]) w := by kernel_rfl
theorem asMethodImplements (h : Value) (w : World) : (Go.method 120 148 (.agg #[h]) "Implements").run Tryd.prog w = .ok (183, .agg #[h]) w := by kernel_rfl
theorem asMethodAssignableTo (h : Value) (w : World) : (Go.method 120 148 (.agg #[h]) "AssignableTo").run Tryd.prog w = .ok (180, .agg #[h]) w := by kernel_rfl
theorem asNoAsE (v : Value) (xT : TypeId) (w : World) : (Instr.typeAssert (.iface 138 v) xT 158 true).run Tryd.prog w = .ok (.tuple #[.nilIface, .bool false]) w := run_typeAssert_lacksB Tryd.underlying158 (by kernel_rfl) (by kernel_rfl) v xT w
end Go.Proofs.YtkcgbdoplhgbmaaDoor
