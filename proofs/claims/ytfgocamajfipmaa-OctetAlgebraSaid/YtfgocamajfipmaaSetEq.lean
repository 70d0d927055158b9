/- Two sets with the same words are one. No condition. -/
import Derived.Test.YtfgocamajfipmaaSetA
namespace Go.Proofs.Ytfgocamajfipmaa
open Go.RowKit

theorem info_u64 : (Try.prog.info? 23).map (·.size) = some 1 := by kernel_rfl
theorem eqIn_same (d : Nat) (a0 a1 a2 a3 : Int) (w : World) :
    (Op.equalIn (d + 2) 25 (.agg #[.int .u64 a0, .int .u64 a1, .int .u64 a2, .int .u64 a3]) (.agg #[.int .u64 a0, .int .u64 a1, .int .u64 a2, .int .u64 a3])).run Try.prog w = .ok true w := by
  obtain ⟨i, hi, hs⟩ := Option.map_eq_some_iff.1 info_u64
  have p0 : ∀ w, (part 23 #[.int .u64 a0, .int .u64 a1, .int .u64 a2, .int .u64 a3] 0).run Try.prog w = .ok (.int .u64 a0) w := fun _ => by kernel_rfl
  have p1 : ∀ w, (part 23 #[.int .u64 a0, .int .u64 a1, .int .u64 a2, .int .u64 a3] 1).run Try.prog w = .ok (.int .u64 a1) w := fun _ => by kernel_rfl
  have p2 : ∀ w, (part 23 #[.int .u64 a0, .int .u64 a1, .int .u64 a2, .int .u64 a3] 2).run Try.prog w = .ok (.int .u64 a2) w := fun _ => by kernel_rfl
  have p3 : ∀ w, (part 23 #[.int .u64 a0, .int .u64 a1, .int .u64 a2, .int .u64 a3] 3).run Try.prog w = .ok (.int .u64 a3) w := fun _ => by kernel_rfl
  have e : ∀ (a : Int) w, (Op.equalIn (d + 1) 23 (.int .u64 a) (.int .u64 a)).run Try.prog w = .ok true w := fun a w => by
    rw [run_equalIn_int w d _ _ _ a a Try.underlying23]; simp
  have r4 : List.range' 0 4 = [0, 1, 2, 3] := rfl
  have hz : ∀ w, (sizeOf 23).run Try.prog w = .ok 1 w := fun w => by simp [sizeOf, typeInfo, hi, hs]
  unfold Op.equalIn
  simp only [Sem.run_bind, run_underlying Try.underlying25, Result.andThen_ok, hz]
  simp [r4, p0, p1, p2, p3, e, List.forIn_cons]
theorem eql_same (a0 a1 a2 a3 : Int) (w : World) :
    (binOp .eql 25 (.agg #[.int .u64 a0, .int .u64 a1, .int .u64 a2, .int .u64 a3]) (.agg #[.int .u64 a0, .int .u64 a1, .int .u64 a2, .int .u64 a3])).run Try.prog w = .ok (.bool true) w := by
  have := eqIn_same 9998 a0 a1 a2 a3 w
  simp only [binOp]
  simp [Op.equal, Op.maxDepth, this]
theorem neq_same (a0 a1 a2 a3 : Int) (w : World) :
    (binOp .neq 25 (.agg #[.int .u64 a0, .int .u64 a1, .int .u64 a2, .int .u64 a3]) (.agg #[.int .u64 a0, .int .u64 a1, .int .u64 a2, .int .u64 a3])).run Try.prog w = .ok (.bool false) w := by
  have := eqIn_same 9998 a0 a1 a2 a3 w
  simp only [binOp]
  simp [Op.equal, Op.maxDepth, this]

end Go.Proofs.Ytfgocamajfipmaa
