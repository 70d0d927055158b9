/- Two sets compared, word by word. No condition. -/
import Derived.Test.YtgfknlkpdiejgaaDoorNLeft
import Derived.Lib.Hide
namespace Go.Proofs.YtgfknlkpdiejgaaDoor
open Go.RowKit

theorem info_u64w : (Tryd.prog.info? 22).map (·.size) = some 1 := by kernel_rfl
set_option maxHeartbeats 4000000 in
theorem eqIn_words (d : Nat) (a0 a1 a2 a3 b0 b1 b2 b3 : Int) (w : World) :
    (Op.equalIn (d + 2) 24 (.agg #[.int .u64 a0, .int .u64 a1, .int .u64 a2, .int .u64 a3]) (.agg #[.int .u64 b0, .int .u64 b1, .int .u64 b2, .int .u64 b3])).run Tryd.prog w = .ok (decide (a0 = b0 ∧ a1 = b1 ∧ a2 = b2 ∧ a3 = b3)) w := by
  obtain ⟨i, hi, hs⟩ := Option.map_eq_some_iff.1 info_u64w
  have p0 : ∀ (a0 a1 a2 a3 : Int) w, (part 22 #[.int .u64 a0, .int .u64 a1, .int .u64 a2, .int .u64 a3] 0).run Tryd.prog w = .ok (.int .u64 a0) w := fun _ _ _ _ _ => by kernel_rfl
  have p1 : ∀ (a0 a1 a2 a3 : Int) w, (part 22 #[.int .u64 a0, .int .u64 a1, .int .u64 a2, .int .u64 a3] 1).run Tryd.prog w = .ok (.int .u64 a1) w := fun _ _ _ _ _ => by kernel_rfl
  have p2 : ∀ (a0 a1 a2 a3 : Int) w, (part 22 #[.int .u64 a0, .int .u64 a1, .int .u64 a2, .int .u64 a3] 2).run Tryd.prog w = .ok (.int .u64 a2) w := fun _ _ _ _ _ => by kernel_rfl
  have p3 : ∀ (a0 a1 a2 a3 : Int) w, (part 22 #[.int .u64 a0, .int .u64 a1, .int .u64 a2, .int .u64 a3] 3).run Tryd.prog w = .ok (.int .u64 a3) w := fun _ _ _ _ _ => by kernel_rfl
  have e : ∀ (a b : Int) w, (Op.equalIn (d + 1) 22 (.int .u64 a) (.int .u64 b)).run Tryd.prog w = .ok (decide (a = b)) w := fun a b w => by
    rw [run_equalIn_int w d _ _ _ a b Tryd.underlying22]; by_cases h : a = b <;> simp [h]
  have r4 : List.range' 0 4 = [0, 1, 2, 3] := rfl
  have hz : ∀ w, (sizeOf 22).run Tryd.prog w = .ok 1 w := fun w => by simp [sizeOf, typeInfo, hi, hs]
  unfold Op.equalIn
  simp only [Sem.run_bind, run_underlying Tryd.underlying24, Result.andThen_ok, hz]
  by_cases h0 : a0 = b0 <;> by_cases h1 : a1 = b1 <;> by_cases h2 : a2 = b2 <;> by_cases h3 : a3 = b3 <;> simp [r4, p0, p1, p2, p3, e, List.forIn_cons, h0, h1, h2, h3]
theorem eql_words (a0 a1 a2 a3 b0 b1 b2 b3 : Int) (w : World) :
    (binOp .eql 24 (.agg #[.int .u64 a0, .int .u64 a1, .int .u64 a2, .int .u64 a3]) (.agg #[.int .u64 b0, .int .u64 b1, .int .u64 b2, .int .u64 b3])).run Tryd.prog w = .ok (.bool (decide (a0 = b0 ∧ a1 = b1 ∧ a2 = b2 ∧ a3 = b3))) w := by
  have := eqIn_words 9998 a0 a1 a2 a3 b0 b1 b2 b3 w
  simp only [binOp]
  simp [Op.equal, Op.maxDepth, this]
theorem neq_words (a0 a1 a2 a3 b0 b1 b2 b3 : Int) (w : World) :
    (binOp .neq 24 (.agg #[.int .u64 a0, .int .u64 a1, .int .u64 a2, .int .u64 a3]) (.agg #[.int .u64 b0, .int .u64 b1, .int .u64 b2, .int .u64 b3])).run Tryd.prog w = .ok (.bool (!decide (a0 = b0 ∧ a1 = b1 ∧ a2 = b2 ∧ a3 = b3))) w := by
  have := eqIn_words 9998 a0 a1 a2 a3 b0 b1 b2 b3 w
  simp only [binOp]
  simp [Op.equal, Op.maxDepth, this]

end Go.Proofs.YtgfknlkpdiejgaaDoor
