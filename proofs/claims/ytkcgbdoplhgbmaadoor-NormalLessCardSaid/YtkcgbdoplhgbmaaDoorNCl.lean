/- A tree in memory may be taken as one whose sets have no bits beyond 256. No condition. -/
import Derived.Test.YtkcgbdoplhgbmaaDoorNrmQ
namespace Go.Proofs.YtkcgbdoplhgbmaaDoor
open Go Go.RowKit

def clnS (p : Nat → Bool) : Nat → Bool := fun b => decide (b < 256) && p b
theorem clnS_wd (p : Nat → Bool) (i : Nat) (h : i < 4) : wd (clnS p) i = wd p i := wd_congr fun k hk => by
  unfold clnS
  rw [decide_eq_true (by omega), Bool.true_and]
mutual
def clean : Nd → Nd
  | .mk h s => .mk { h with set := clnS h.set } (cleanL s)
def cleanL : List Nd → List Nd
  | [] => []
  | n :: r => clean n :: cleanL r
end
theorem cleanL_len : ∀ (l : List Nd), (cleanL l).length = l.length
  | [] => rfl
  | n :: r => by rw [cleanL, List.length_cons, List.length_cons, cleanL_len r]
mutual
theorem clean_cl : ∀ (n : Nd), clN (clean n)
  | .mk h s => by
    rw [clean]
    exact ⟨fun b hb => by show (decide (b < 256) && h.set b) = false; rw [decide_eq_false (by omega)]; rfl, cleanL_cl s⟩
theorem cleanL_cl : ∀ (l : List Nd), clL (cleanL l)
  | [] => trivial
  | n :: r => ⟨clean_cl n, cleanL_cl r⟩
end
theorem clean_C (n : Nd) (sv : Value) : nodeC (clean n).h sv = nodeC n.h sv := by
  obtain ⟨h, s⟩ := n
  rw [clean]
  unfold nodeC
  simp only [Nd.h, clnS_wd _ _ (show 0 < 4 by decide), clnS_wd _ _ (show 1 < 4 by decide), clnS_wd _ _ (show 2 < 4 by decide), clnS_wd _ _ (show 3 < 4 by decide)]
theorem clean_V (n : Nd) (sv : Value) : nodeV (clean n).h sv = nodeV n.h sv := by
  obtain ⟨h, s⟩ := n
  rw [clean]
  unfold nodeV
  simp only [Nd.h, clnS_wd _ _ (show 0 < 4 by decide), clnS_wd _ _ (show 1 < 4 by decide), clnS_wd _ _ (show 2 < 4 by decide), clnS_wd _ _ (show 3 < 4 by decide)]
mutual
theorem clean_ok {W : World} : ∀ (n : Nd) (sv : Value), NdOk W n sv → NdOk W (clean n) sv
  | .mk h s, sv, hn => by
    obtain ⟨A, c, rfl, hs⟩ := hn
    rw [clean]
    exact ⟨A, c, by rw [cleanL_len], cleanL_ok s A 0 hs⟩
theorem cleanL_ok {W : World} : ∀ (l : List Nd) (A : Option Addr) (k : Nat), NdsOk W l A k → NdsOk W (cleanL l) A k
  | [], _, _, _ => trivial
  | n :: r, A, k, ⟨⟨g, o, sv, h1, h2, h3⟩, h4⟩ => ⟨⟨g, o, sv, h1, fun i hi => by rw [clean_C]; exact h2 i hi, clean_ok n sv h3⟩, cleanL_ok r A (k + 1) h4⟩
end
theorem open_clean {W : World} {v : Value} (h : ∃ (n : Nd) (sv : Value), v = nodeV n.h sv ∧ NdOk W n sv) : ∃ (n : Nd) (sv : Value), v = nodeV n.h sv ∧ NdOk W n sv ∧ clN n := by
  obtain ⟨n, sv, h1, h2⟩ := h
  exact ⟨clean n, sv, by rw [clean_V]; exact h1, clean_ok n sv h2, clean_cl n⟩

end Go.Proofs.YtkcgbdoplhgbmaaDoor
