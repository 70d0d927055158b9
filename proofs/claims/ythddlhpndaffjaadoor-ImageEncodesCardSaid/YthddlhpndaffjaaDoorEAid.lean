/- trawlnum.Num of what tree.Check answers; whole nodes loaded in a region whose calls make memory. No condition. -/
import Derived.Test.YthddlhpndaffjaaDoorExpandC
import Derived.Test.YthddlhpndaffjaaDoorNumErr
namespace Go.Proofs.YthddlhpndaffjaaDoor
open Go Go.RowKit

theorem num_errR (A : Nat → Addr) (k : Nat) (w : World) (hk : k ≤ 21) (h : ErrsAt w A) :
    Calls Tryd.prog 20 #[errR A k] w fun r w' => r = .returned (.int .i64 k) ∧ Ext w w' := by
  unfold errR
  by_cases h0 : k = 0
  · subst h0
    rw [if_pos rfl]
    exact Calls.ext_of_same (num_nil w)
  · rw [if_neg h0]
    have := num_err A (k - 1) w (by omega) h
    rwa [show k - 1 + 1 = k by omega] at this
theorem chk_le (n : Nd) : chkN n ≤ 21 := by unfold chkN; split <;> (try split) <;> (try split) <;> omega
theorem small_res {n : Nd} {k : Nat} (h : k = 0 → smallN n) : smallN (resN n k) := by
  unfold resN
  split
  · rename_i h0; exact h h0
  · exact ⟨by simp, trivial⟩
theorem NdAt.plus {w : World} {g o : Nat} {h : Hd} {sv : Value} (hn : NdAt w g o h sv) (y : Ex w) : NdAt (plus w y) g o h sv := hn.ext (plus_ext w y)
/-- The load of a whole node in a region whose worlds extend w. -/
theorem wpQuiet_loadNd {ops : Array Oper} {rest : List Oper} {o : Oper} {a : Act} {w : World} {K : Act → Prop} (x : Operand) (ho : o.op = .load 27 x) (hw : Region.wanted o (yielded ops a.tmps) = true) (g k : Nat) (h : Hd) (sv : Value) (hx : a.eval x = .pointer (some ⟨g, k, none⟩)) (hN : NdAt w g k h sv)
    (hK : wpQuiet Tryd.prog ops (fun w' => ∃ y : Ex w, w' = plus w y) K rest (a.put o.dst (nodeV h sv))) : wpQuiet Tryd.prog ops (fun w' => ∃ y : Ex w, w' = plus w y) K (o :: rest) a := by
  unfold wpQuiet
  rw [if_pos hw]
  refine ⟨nodeV h sv, fun W ⟨y, hy⟩ => ?_, hK⟩
  subst hy
  have hr := run_loadAt_mid (P := Tryd.prog) (plus w y) g k 27 (nodeC h sv) _ (fun j v hv => by
    have hj : j < 10 := (List.getElem?_eq_some_iff.1 hv).1
    rw [hN.plus y j hj, hv]) Tryd.underlying27 rfl info_nd
  unfold Oper.quietAt execOp
  simp only [ho, hx, Sem.run_bind, Sem.run_pure, Result.andThen_ok, hr]
  exact ⟨rfl, rfl⟩

end Go.Proofs.YthddlhpndaffjaaDoor
