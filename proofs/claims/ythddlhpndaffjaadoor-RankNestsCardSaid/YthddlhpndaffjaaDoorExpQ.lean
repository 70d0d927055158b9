/- How many nodes are left behind a tree. No program. -/
import Derived.Test.YthddlhpndaffjaaDoorExpP
namespace Go.Proofs.YthddlhpndaffjaaDoor

mutual
theorem left_nodes : ∀ (n : Nd) (m : Int), nodesN n ≤ m → leftN n m = m - nodesN n
  | .mk h subs, m, hm => by
    rw [nodesN] at hm ⊢
    rw [leftN, leftL_nodes subs (m - 1) (by omega)]
    omega
theorem leftL_nodes : ∀ (l : List Nd) (m : Int), nodesL l ≤ m → leftL l m = m - nodesL l
  | [], m, _ => by rw [leftL, nodesL]; omega
  | n :: r, m, hm => by
    have h1 := nodesN_pos n
    have h2 := nodesL_pos r
    rw [nodesL] at hm ⊢
    rw [leftL, if_pos (by omega), left_nodes n m (by omega), leftL_nodes r _ (by omega)]
    omega
end
theorem left_few {n : Nd} {m : Int} (h : nodesN n ≤ m) : 0 ≤ leftN n m := by rw [left_nodes n m h]; omega


end Go.Proofs.YthddlhpndaffjaaDoor
