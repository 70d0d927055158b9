/- tree.formed as a contract. No condition. -/
import Derived.Test.YtgfknlkpdiejgaaDoorSetW
namespace Go.Proofs.YtgfknlkpdiejgaaDoor
open Go.RowKit

def zeroS (p : Nat → Bool) : Bool := decide ((wd p 0 : Int) = 0 ∧ (wd p 1 : Int) = 0 ∧ (wd p 2 : Int) = 0 ∧ (wd p 3 : Int) = 0)
def plainB (h : Hd) : Bool := zeroS h.set && decide (h.num = 0) && decide (h.min = 0) && decide (h.max = 0) && !h.bare
def formedB (h : Hd) (len : Nat) : Bool :=
  if h.kind = 1 ∨ h.kind = 3 ∨ h.kind = 4 then plainB h && decide (len = 0)
  else if h.kind = 2 then decide (h.num = 0) && decide (h.min = 0) && decide (h.max = 0) && !h.bare && decide (len = 0)
  else if h.kind = 5 ∨ h.kind = 6 then plainB h && decide (1 < len)
  else if h.kind = 7 then zeroS h.set && decide (0 < h.num) && decide (h.num ≤ 999) && decide (h.min = 0) && decide (h.max = 0) && !h.bare && decide (len = 1)
  else if h.kind = 8 then zeroS h.set && decide (h.num = 0) && decide (len = 1) && decide (0 ≤ h.min) && decide (h.min ≤ 255) && !(h.bare && decide (0 < h.min)) && (decide (h.max = -1) || decide (h.min ≤ h.max) && decide (h.max ≤ 255))
  else false

set_option maxRecDepth 100000 in
set_option maxHeartbeats 8000000 in
theorem formed_any (h : Hd) (A : Option Addr) (len c : Nat) (w : World) :
    Calls Tryd.prog 31 #[nodeV h (.slice A len c)] w fun r w' => r = .returned (.bool (formedB h len)) ∧ Ext w w' := by
  obtain ⟨kind, set, num, mn, mx, bare⟩ := h
  have heq : ∀ W, (binOp .eql 24 (.agg #[.int .u64 (wd set 0 : Int), .int .u64 (wd set 1 : Int), .int .u64 (wd set 2 : Int), .int .u64 (wd set 3 : Int)]) (.agg #[.int .u64 0, .int .u64 0, .int .u64 0, .int .u64 0])).run Tryd.prog W = .ok (.bool (zeroS set)) W := fun W => eql_words _ _ _ _ _ _ _ _ W
  have hne : ∀ W, (binOp .neq 24 (.agg #[.int .u64 (wd set 0 : Int), .int .u64 (wd set 1 : Int), .int .u64 (wd set 2 : Int), .int .u64 (wd set 3 : Int)]) (.agg #[.int .u64 0, .int .u64 0, .int .u64 0, .int .u64 0])).run Tryd.prog W = .ok (.bool (!zeroS set)) W := fun W => neq_words _ _ _ _ _ _ _ _ W
  unfold nodeV
  simp only
  go_enter Tryd.func31, Tryd.ntmps31
  go_upto_region 1 with fail
  have nb := Blk.new w 27 #[.int .i64 kind, .int .u64 (wd set 0 : Int), .int .u64 (wd set 1 : Int), .int .u64 (wd set 2 : Int), .int .u64 (wd set 3 : Int), .slice A len c, .int .i64 num, .int .i64 mn, .int .i64 mx, .bool bare]
  have hx := (Ext.refl w).alloc (.cells #[.int .i64 kind, .int .u64 (wd set 0 : Int), .int .u64 (wd set 1 : Int), .int .u64 (wd set 2 : Int), .int .u64 (wd set 3 : Int), .slice A len c, .int .i64 num, .int .i64 mn, .int .i64 mx, .bool bare] 27)
  generalize w.alloc (.cells #[.int .i64 kind, .int .u64 (wd set 0 : Int), .int .u64 (wd set 1 : Int), .int .u64 (wd set 2 : Int), .int .u64 (wd set 3 : Int), .slice A len c, .int .i64 num, .int .i64 mn, .int .i64 mx, .bool bare] 27) = w1 at *
  generalize w.heap.size = b at *
  have c0 := nb.cell 0
  have c1 := nb.cell 1
  have c2 := nb.cell 2
  have c3 := nb.cell 3
  have c4 := nb.cell 4
  have c5 := nb.cell 5
  have c6 := nb.cell 6
  have c7 := nb.cell 7
  have c8 := nb.cell 8
  have c9 := nb.cell 9
  simp only [List.getElem?_toArray, List.getElem?_cons_succ, List.getElem?_cons_zero] at c0 c1 c2 c3 c4 c5 c6 c7 c8 c9
  clear nb
  go_cut [0, 3] (fun _ v wx => v = .bool (plainB ⟨kind, set, num, mn, mx, bare⟩) ∧ wx = w1)
  case first =>
    cases hz : zeroS set
    all_goals
      rw [hz] at heq
      clear hne
      go_wp2
      all_goals
        go_meet
        case rel => exact ⟨by simp [plainB, *], rfl⟩
  obtain ⟨rfl, rfl⟩ := hcut
  generalize hpb : plainB ⟨kind, set, num, mn, mx, bare⟩ = pb at *
  by_cases k1 : kind = 1
  · subst k1
    cases pb
    all_goals
      go_wp2
      all_goals
        go_ret
        exact ⟨by first | (simp [formedB, *]; done) | (simp [formedB, *]; rw [Bool.eq_iff_iff]; simp; done) | (simp [formedB, *]; rw [Bool.eq_iff_iff]; simp; omega) | (simp [formedB, *]; omega), hx⟩
  by_cases k3 : kind = 3
  · subst k3
    cases pb
    all_goals
      go_wp2
      all_goals
        go_ret
        exact ⟨by first | (simp [formedB, *]; done) | (simp [formedB, *]; rw [Bool.eq_iff_iff]; simp; done) | (simp [formedB, *]; rw [Bool.eq_iff_iff]; simp; omega) | (simp [formedB, *]; omega), hx⟩
  by_cases k4 : kind = 4
  · subst k4
    cases pb
    all_goals
      go_wp2
      all_goals
        go_ret
        exact ⟨by first | (simp [formedB, *]; done) | (simp [formedB, *]; rw [Bool.eq_iff_iff]; simp; done) | (simp [formedB, *]; rw [Bool.eq_iff_iff]; simp; omega) | (simp [formedB, *]; omega), hx⟩
  by_cases k2 : kind = 2
  · subst k2
    all_goals
      go_wp2
      all_goals
        go_ret
        exact ⟨by first | (simp [formedB, *]; done) | (simp [formedB, *]; rw [Bool.eq_iff_iff]; simp; done) | (simp [formedB, *]; rw [Bool.eq_iff_iff]; simp; omega) | (simp [formedB, *]; omega), hx⟩
  by_cases k5 : kind = 5
  · subst k5
    cases pb
    all_goals
      go_wp2
      all_goals
        go_ret
        exact ⟨by first | (simp [formedB, *]; done) | (simp [formedB, *]; rw [Bool.eq_iff_iff]; simp; done) | (simp [formedB, *]; rw [Bool.eq_iff_iff]; simp; omega) | (simp [formedB, *]; omega), hx⟩
  by_cases k6 : kind = 6
  · subst k6
    cases pb
    all_goals
      go_wp2
      all_goals
        go_ret
        exact ⟨by first | (simp [formedB, *]; done) | (simp [formedB, *]; rw [Bool.eq_iff_iff]; simp; done) | (simp [formedB, *]; rw [Bool.eq_iff_iff]; simp; omega) | (simp [formedB, *]; omega), hx⟩
  by_cases k7 : kind = 7
  · subst k7
    cases hz : zeroS set
    all_goals
      rw [hz] at heq hne
      go_wp2
      all_goals
        go_ret
        exact ⟨by first | (simp [formedB, *]; done) | (simp [formedB, *]; rw [Bool.eq_iff_iff]; simp; done) | (simp [formedB, *]; rw [Bool.eq_iff_iff]; simp; omega) | (simp [formedB, *]; omega), hx⟩
  by_cases k8 : kind = 8
  · subst k8
    cases hz : zeroS set
    all_goals
      rw [hz] at heq hne
      go_wp2
      all_goals
        go_ret
        exact ⟨by first | (simp [formedB, *]; done) | (simp [formedB, *]; rw [Bool.eq_iff_iff]; simp; done) | (simp [formedB, *]; rw [Bool.eq_iff_iff]; simp; omega) | (simp [formedB, *]; omega), hx⟩
  go_wp2
  all_goals
    go_ret
    exact ⟨by simp [formedB, *], hx⟩

end Go.Proofs.YtgfknlkpdiejgaaDoor
