/- Two sets with the same words are one. No condition. -/
import Derived.Test.YteahmkhmkalimaaDoorSetA
namespace Go.Proofs.YteahmkhmkalimaaDoor
open Go.RowKit

theorem info_u64 : (Tryd.prog.info? 22).map (·.size) = some 1 := by kernel_rfl
theorem eqIn_same (d : Nat) (a0 a1 a2 a3 : Int) (w : World) :
    (Op.equalIn (d + 2) 24 (.agg #[.int .u64 a0, .int .u64 a1, .int .u64 a2, .int .u64 a3]) (.agg #[.int .u64 a0, .int .u64 a1, .int .u64 a2, .int .u64 a3])).run Tryd.prog w = .ok true w := by
  obtain ⟨i, hi, hs⟩ := Option.map_eq_some_iff.1 info_u64
  have p0 : ∀ w, (part 22 #[.int .u64 a0, .int .u64 a1, .int .u64 a2, .int .u64 a3] 0).run Tryd.prog w = .ok (.int .u64 a0) w := fun _ => by kernel_rfl
  have p1 : ∀ w, (part 22 #[.int .u64 a0, .int .u64 a1, .int .u64 a2, .int .u64 a3] 1).run Tryd.prog w = .ok (.int .u64 a1) w := fun _ => by kernel_rfl
  have p2 : ∀ w, (part 22 #[.int .u64 a0, .int .u64 a1, .int .u64 a2, .int .u64 a3] 2).run Tryd.prog w = .ok (.int .u64 a2) w := fun _ => by kernel_rfl
  have p3 : ∀ w, (part 22 #[.int .u64 a0, .int .u64 a1, .int .u64 a2, .int .u64 a3] 3).run Tryd.prog w = .ok (.int .u64 a3) w := fun _ => by kernel_rfl
  have e : ∀ (a : Int) w, (Op.equalIn (d + 1) 22 (.int .u64 a) (.int .u64 a)).run Tryd.prog w = .ok true w := fun a w => by
    rw [run_equalIn_int w d _ _ _ a a Tryd.underlying22]; simp
  have r4 : List.range' 0 4 = [0, 1, 2, 3] := rfl
  have hz : ∀ w, (sizeOf 22).run Tryd.prog w = .ok 1 w := fun w => by simp [sizeOf, typeInfo, hi, hs]
  unfold Op.equalIn
  simp only [Sem.run_bind, run_underlying Tryd.underlying24, Result.andThen_ok, hz]
  simp [r4, p0, p1, p2, p3, e, List.forIn_cons]
theorem eql_same (a0 a1 a2 a3 : Int) (w : World) :
    (binOp .eql 24 (.agg #[.int .u64 a0, .int .u64 a1, .int .u64 a2, .int .u64 a3]) (.agg #[.int .u64 a0, .int .u64 a1, .int .u64 a2, .int .u64 a3])).run Tryd.prog w = .ok (.bool true) w := by
  have := eqIn_same 9998 a0 a1 a2 a3 w
  simp only [binOp]
  simp [Op.equal, Op.maxDepth, this]
theorem neq_same (a0 a1 a2 a3 : Int) (w : World) :
    (binOp .neq 24 (.agg #[.int .u64 a0, .int .u64 a1, .int .u64 a2, .int .u64 a3]) (.agg #[.int .u64 a0, .int .u64 a1, .int .u64 a2, .int .u64 a3])).run Tryd.prog w = .ok (.bool false) w := by
  have := eqIn_same 9998 a0 a1 a2 a3 w
  simp only [binOp]
  simp [Op.equal, Op.maxDepth, this]

end Go.Proofs.YteahmkhmkalimaaDoor
