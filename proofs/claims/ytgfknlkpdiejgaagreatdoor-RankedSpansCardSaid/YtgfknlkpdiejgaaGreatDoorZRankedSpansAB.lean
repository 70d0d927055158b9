/- Two sets compared, word by word. No condition. tree.formed as a contract. No condition. tree.form as a contract: the tree is in form. Condition: the tree lies in memory, its lists are short. Worlds of which only some blocks have turned; append onto a row that the program made, with what it leaves of the others. No condition. -/
import Derived.Test.YtgfknlkpdiejgaaGreatDoorZRankedSpansAA
import Derived.Lib.Hide
import Derived.Test.YtgfknlkpdiejgaaGreatDoorLib
namespace Go.Proofs.YtgfknlkpdiejgaaGreatDoor
open Go.RowKit

theorem info_u64w : (Tryz.prog.info? 22).map (·.size) = some 1 := by kernel_rfl
set_option maxHeartbeats 4000000 in
theorem eqIn_words (d : Nat) (a0 a1 a2 a3 b0 b1 b2 b3 : Int) (w : World) :
    (Op.equalIn (d + 2) 24 (.agg #[.int .u64 a0, .int .u64 a1, .int .u64 a2, .int .u64 a3]) (.agg #[.int .u64 b0, .int .u64 b1, .int .u64 b2, .int .u64 b3])).run Tryz.prog w = .ok (decide (a0 = b0 ∧ a1 = b1 ∧ a2 = b2 ∧ a3 = b3)) w := by
  obtain ⟨i, hi, hs⟩ := Option.map_eq_some_iff.1 info_u64w
  have p0 : ∀ (a0 a1 a2 a3 : Int) w, (part 22 #[.int .u64 a0, .int .u64 a1, .int .u64 a2, .int .u64 a3] 0).run Tryz.prog w = .ok (.int .u64 a0) w := fun _ _ _ _ _ => by kernel_rfl
  have p1 : ∀ (a0 a1 a2 a3 : Int) w, (part 22 #[.int .u64 a0, .int .u64 a1, .int .u64 a2, .int .u64 a3] 1).run Tryz.prog w = .ok (.int .u64 a1) w := fun _ _ _ _ _ => by kernel_rfl
  have p2 : ∀ (a0 a1 a2 a3 : Int) w, (part 22 #[.int .u64 a0, .int .u64 a1, .int .u64 a2, .int .u64 a3] 2).run Tryz.prog w = .ok (.int .u64 a2) w := fun _ _ _ _ _ => by kernel_rfl
  have p3 : ∀ (a0 a1 a2 a3 : Int) w, (part 22 #[.int .u64 a0, .int .u64 a1, .int .u64 a2, .int .u64 a3] 3).run Tryz.prog w = .ok (.int .u64 a3) w := fun _ _ _ _ _ => by kernel_rfl
  have e : ∀ (a b : Int) w, (Op.equalIn (d + 1) 22 (.int .u64 a) (.int .u64 b)).run Tryz.prog w = .ok (decide (a = b)) w := fun a b w => by
    rw [run_equalIn_int w d _ _ _ a b Tryz.underlying22]; by_cases h : a = b <;> simp [h]
  have r4 : List.range' 0 4 = [0, 1, 2, 3] := rfl
  have hz : ∀ w, (sizeOf 22).run Tryz.prog w = .ok 1 w := fun w => by simp [sizeOf, typeInfo, hi, hs]
  unfold Op.equalIn
  simp only [Sem.run_bind, run_underlying Tryz.underlying24, Result.andThen_ok, hz]
  by_cases h0 : a0 = b0 <;> by_cases h1 : a1 = b1 <;> by_cases h2 : a2 = b2 <;> by_cases h3 : a3 = b3 <;> simp [r4, p0, p1, p2, p3, e, List.forIn_cons, h0, h1, h2, h3]
theorem eql_words (a0 a1 a2 a3 b0 b1 b2 b3 : Int) (w : World) :
    (binOp .eql 24 (.agg #[.int .u64 a0, .int .u64 a1, .int .u64 a2, .int .u64 a3]) (.agg #[.int .u64 b0, .int .u64 b1, .int .u64 b2, .int .u64 b3])).run Tryz.prog w = .ok (.bool (decide (a0 = b0 ∧ a1 = b1 ∧ a2 = b2 ∧ a3 = b3))) w := by
  have := eqIn_words 9998 a0 a1 a2 a3 b0 b1 b2 b3 w
  simp only [binOp]
  simp [Op.equal, Op.maxDepth, this]
theorem neq_words (a0 a1 a2 a3 b0 b1 b2 b3 : Int) (w : World) :
    (binOp .neq 24 (.agg #[.int .u64 a0, .int .u64 a1, .int .u64 a2, .int .u64 a3]) (.agg #[.int .u64 b0, .int .u64 b1, .int .u64 b2, .int .u64 b3])).run Tryz.prog w = .ok (.bool (!decide (a0 = b0 ∧ a1 = b1 ∧ a2 = b2 ∧ a3 = b3))) w := by
  have := eqIn_words 9998 a0 a1 a2 a3 b0 b1 b2 b3 w
  simp only [binOp]
  simp [Op.equal, Op.maxDepth, this]

end Go.Proofs.YtgfknlkpdiejgaaGreatDoor

namespace Go.Proofs.YtgfknlkpdiejgaaGreatDoor
open Go.RowKit

def zeroS (p : Nat → Bool) : Bool := decide ((wd p 0 : Int) = 0 ∧ (wd p 1 : Int) = 0 ∧ (wd p 2 : Int) = 0 ∧ (wd p 3 : Int) = 0)
def plainB (h : Hd) : Bool := zeroS h.set && decide (h.num = 0) && decide (h.min = 0) && decide (h.max = 0) && !h.bare
def formedB (h : Hd) (len : Nat) : Bool :=
  if h.kind = 1 ∨ h.kind = 3 ∨ h.kind = 4 then plainB h && decide (len = 0)
  else if h.kind = 2 then decide (h.num = 0) && decide (h.min = 0) && decide (h.max = 0) && !h.bare && decide (len = 0)
  else if h.kind = 5 ∨ h.kind = 6 then plainB h && decide (1 < len)
  else if h.kind = 7 then zeroS h.set && decide (0 < h.num) && decide (h.num ≤ 999) && decide (h.min = 0) && decide (h.max = 0) && !h.bare && decide (len = 1)
  else if h.kind = 8 then zeroS h.set && decide (h.num = 0) && decide (len = 1) && decide (0 ≤ h.min) && decide (h.min ≤ 255) && !(h.bare && decide (0 < h.min)) && (decide (h.max = -1) || decide (h.min ≤ h.max) && decide (h.max ≤ 255))
  else false

set_option maxRecDepth 100000 in
set_option maxHeartbeats 8000000 in
theorem formed_any (h : Hd) (A : Option Addr) (len c : Nat) (w : World) :
    Calls Tryz.prog 84 #[nodeV h (.slice A len c)] w fun r w' => r = .returned (.bool (formedB h len)) ∧ Ext w w' := by
  obtain ⟨kind, set, num, mn, mx, bare⟩ := h
  have heq : ∀ W, (binOp .eql 24 (.agg #[.int .u64 (wd set 0 : Int), .int .u64 (wd set 1 : Int), .int .u64 (wd set 2 : Int), .int .u64 (wd set 3 : Int)]) (.agg #[.int .u64 0, .int .u64 0, .int .u64 0, .int .u64 0])).run Tryz.prog W = .ok (.bool (zeroS set)) W := fun W => eql_words _ _ _ _ _ _ _ _ W
  have hne : ∀ W, (binOp .neq 24 (.agg #[.int .u64 (wd set 0 : Int), .int .u64 (wd set 1 : Int), .int .u64 (wd set 2 : Int), .int .u64 (wd set 3 : Int)]) (.agg #[.int .u64 0, .int .u64 0, .int .u64 0, .int .u64 0])).run Tryz.prog W = .ok (.bool (!zeroS set)) W := fun W => neq_words _ _ _ _ _ _ _ _ W
  unfold nodeV
  simp only
  go_enter Tryz.func84, Tryz.ntmps84
  go_upto_region 1 with fail
  have nb := Blk.new w 27 #[.int .i64 kind, .int .u64 (wd set 0 : Int), .int .u64 (wd set 1 : Int), .int .u64 (wd set 2 : Int), .int .u64 (wd set 3 : Int), .slice A len c, .int .i64 num, .int .i64 mn, .int .i64 mx, .bool bare]
  have hx := (Ext.refl w).alloc (.cells #[.int .i64 kind, .int .u64 (wd set 0 : Int), .int .u64 (wd set 1 : Int), .int .u64 (wd set 2 : Int), .int .u64 (wd set 3 : Int), .slice A len c, .int .i64 num, .int .i64 mn, .int .i64 mx, .bool bare] 27)
  generalize w.alloc (.cells #[.int .i64 kind, .int .u64 (wd set 0 : Int), .int .u64 (wd set 1 : Int), .int .u64 (wd set 2 : Int), .int .u64 (wd set 3 : Int), .slice A len c, .int .i64 num, .int .i64 mn, .int .i64 mx, .bool bare] 27) = w1 at *
  generalize w.heap.size = b at *
  have c0 := nb.cell 0
  have c1 := nb.cell 1
  have c2 := nb.cell 2
  have c3 := nb.cell 3
  have c4 := nb.cell 4
  have c5 := nb.cell 5
  have c6 := nb.cell 6
  have c7 := nb.cell 7
  have c8 := nb.cell 8
  have c9 := nb.cell 9
  simp only [List.getElem?_toArray, List.getElem?_cons_succ, List.getElem?_cons_zero] at c0 c1 c2 c3 c4 c5 c6 c7 c8 c9
  clear nb
  go_cut [0, 3] (fun _ v wx => v = .bool (plainB ⟨kind, set, num, mn, mx, bare⟩) ∧ wx = w1)
  case first =>
    cases hz : zeroS set
    all_goals
      rw [hz] at heq
      clear hne
      go_wp2
      all_goals
        go_meet
        case rel => exact ⟨by simp [plainB, *], rfl⟩
  obtain ⟨rfl, rfl⟩ := hcut
  generalize hpb : plainB ⟨kind, set, num, mn, mx, bare⟩ = pb at *
  by_cases k1 : kind = 1
  · subst k1
    cases pb
    all_goals
      go_wp2
      all_goals
        go_ret
        exact ⟨by first | (simp [formedB, *]; done) | (simp [formedB, *]; rw [Bool.eq_iff_iff]; simp; done) | (simp [formedB, *]; rw [Bool.eq_iff_iff]; simp; omega) | (simp [formedB, *]; omega), hx⟩
  by_cases k3 : kind = 3
  · subst k3
    cases pb
    all_goals
      go_wp2
      all_goals
        go_ret
        exact ⟨by first | (simp [formedB, *]; done) | (simp [formedB, *]; rw [Bool.eq_iff_iff]; simp; done) | (simp [formedB, *]; rw [Bool.eq_iff_iff]; simp; omega) | (simp [formedB, *]; omega), hx⟩
  by_cases k4 : kind = 4
  · subst k4
    cases pb
    all_goals
      go_wp2
      all_goals
        go_ret
        exact ⟨by first | (simp [formedB, *]; done) | (simp [formedB, *]; rw [Bool.eq_iff_iff]; simp; done) | (simp [formedB, *]; rw [Bool.eq_iff_iff]; simp; omega) | (simp [formedB, *]; omega), hx⟩
  by_cases k2 : kind = 2
  · subst k2
    all_goals
      go_wp2
      all_goals
        go_ret
        exact ⟨by first | (simp [formedB, *]; done) | (simp [formedB, *]; rw [Bool.eq_iff_iff]; simp; done) | (simp [formedB, *]; rw [Bool.eq_iff_iff]; simp; omega) | (simp [formedB, *]; omega), hx⟩
  by_cases k5 : kind = 5
  · subst k5
    cases pb
    all_goals
      go_wp2
      all_goals
        go_ret
        exact ⟨by first | (simp [formedB, *]; done) | (simp [formedB, *]; rw [Bool.eq_iff_iff]; simp; done) | (simp [formedB, *]; rw [Bool.eq_iff_iff]; simp; omega) | (simp [formedB, *]; omega), hx⟩
  by_cases k6 : kind = 6
  · subst k6
    cases pb
    all_goals
      go_wp2
      all_goals
        go_ret
        exact ⟨by first | (simp [formedB, *]; done) | (simp [formedB, *]; rw [Bool.eq_iff_iff]; simp; done) | (simp [formedB, *]; rw [Bool.eq_iff_iff]; simp; omega) | (simp [formedB, *]; omega), hx⟩
  by_cases k7 : kind = 7
  · subst k7
    cases hz : zeroS set
    all_goals
      rw [hz] at heq hne
      go_wp2
      all_goals
        go_ret
        exact ⟨by first | (simp [formedB, *]; done) | (simp [formedB, *]; rw [Bool.eq_iff_iff]; simp; done) | (simp [formedB, *]; rw [Bool.eq_iff_iff]; simp; omega) | (simp [formedB, *]; omega), hx⟩
  by_cases k8 : kind = 8
  · subst k8
    cases hz : zeroS set
    all_goals
      rw [hz] at heq hne
      go_wp2
      all_goals
        go_ret
        exact ⟨by first | (simp [formedB, *]; done) | (simp [formedB, *]; rw [Bool.eq_iff_iff]; simp; done) | (simp [formedB, *]; rw [Bool.eq_iff_iff]; simp; omega) | (simp [formedB, *]; omega), hx⟩
  go_wp2
  all_goals
    go_ret
    exact ⟨by simp [formedB, *], hx⟩

end Go.Proofs.YtgfknlkpdiejgaaGreatDoor

namespace Go.Proofs.YtgfknlkpdiejgaaGreatDoor
open Go.RowKit

mutual
def formB : Nd → Bool
  | .mk h subs => formedB h subs.length && formL subs
def formL : List Nd → Bool
  | [] => true
  | n :: r => formB n && formL r
end
theorem formL_app : ∀ (a b : List Nd), formL (a ++ b) = (formL a && formL b)
  | [], _ => by simp [formL]
  | n :: a, b => by
    show formL (n :: (a ++ b)) = _
    rw [formL, formL, formL_app a b, Bool.and_assoc]
theorem formL_one (n : Nd) : formL [n] = formB n := by simp [formL]
mutual
def smallN : Nd → Prop
  | .mk _ subs => subs.length ≤ 1000000 ∧ smallL subs
def smallL : List Nd → Prop
  | [] => True
  | n :: r => smallN n ∧ smallL r
end
theorem smallL_mem : ∀ {l : List Nd}, smallL l → ∀ n ∈ l, smallN n
  | [], _, n, h => by cases h
  | a :: r, hs, n, h => by
    rcases List.mem_cons.1 h with rfl | h
    · exact hs.1
    · exact smallL_mem hs.2 n h
mutual
theorem small_left : ∀ (n : Nd) (m : Int), m ≤ 1000000 → 0 ≤ leftN n m → smallN n
  | .mk _ subs, m, h1, h => by
    unfold leftN at h
    have h2 := leftL_len subs (m - 1) h
    exact ⟨by omega, smallL_left subs (m - 1) (by omega) h⟩
theorem smallL_left : ∀ (l : List Nd) (m : Int), m ≤ 1000000 → 0 ≤ leftL l m → smallL l
  | [], _, _, _ => trivial
  | n :: r, m, h1, h => by
    by_cases h0 : 0 ≤ m
    · rw [leftL, if_pos h0] at h
      have h2 : 0 ≤ leftN n m := by
        rcases Int.lt_or_le (leftN n m) 0 with h3 | h3
        · rw [leftL_neg _ _ h3] at h; omega
        · exact h3
      have h3 := leftN_range n m h0
      exact ⟨small_left n m h1 h2, smallL_left r _ (by omega) h⟩
    · rw [leftL_neg _ _ (by omega)] at h
      omega
end

theorem NdOk.shape {W : World} : ∀ {n : Nd} {sv : Value}, NdOk W n sv → ∃ A c, sv = .slice A n.subs.length c
  | .mk _ _, _, ⟨A, c, h, _⟩ => ⟨A, c, h⟩

set_option maxRecDepth 100000 in
set_option maxHeartbeats 4000000 in
theorem form_any : ∀ (n : Nd) (sv : Value) (w : World), NdOk w n sv → smallN n →
    Calls Tryz.prog 68 #[nodeV n.h sv] w fun r w' => r = .returned (.bool (formB n)) ∧ Ext w w' := by
  refine Nd.ind fun hd subs ih sv w hn hsm => ?_
  unfold NdOk at hn
  obtain ⟨A, c, rfl, hs⟩ := hn
  obtain ⟨hlen, hsm⟩ := hsm
  have IH := Lib.hid (fun n hm sv w hn => ih n hm sv w hn (smallL_mem hsm n hm))
  have HS := Lib.hid hs
  have HF := Lib.hid (fun W => formed_any hd A subs.length c W)
  clear ih hs hsm
  show Calls _ _ #[nodeV hd _] _ _
  have hfb : formB (.mk hd subs) = (formedB hd subs.length && formL subs) := by rw [formB]
  rw [hfb]
  clear hfb
  generalize formedB hd subs.length = fb at *
  obtain ⟨kind, set, num, mn, mx, bare⟩ := hd
  unfold nodeV at *
  simp only at *
  go_enter Tryz.func68, Tryz.ntmps68
  go_upto_region 1 with fail
  have nb := Blk.new w 27 #[.int .i64 kind, .int .u64 (wd set 0 : Int), .int .u64 (wd set 1 : Int), .int .u64 (wd set 2 : Int), .int .u64 (wd set 3 : Int), .slice A subs.length c, .int .i64 num, .int .i64 mn, .int .i64 mx, .bool bare]
  have hx1 := (Ext.refl w).alloc (.cells #[.int .i64 kind, .int .u64 (wd set 0 : Int), .int .u64 (wd set 1 : Int), .int .u64 (wd set 2 : Int), .int .u64 (wd set 3 : Int), .slice A subs.length c, .int .i64 num, .int .i64 mn, .int .i64 mx, .bool bare] 27)
  generalize w.alloc (.cells #[.int .i64 kind, .int .u64 (wd set 0 : Int), .int .u64 (wd set 1 : Int), .int .u64 (wd set 2 : Int), .int .u64 (wd set 3 : Int), .slice A subs.length c, .int .i64 num, .int .i64 mn, .int .i64 mx, .bool bare] 27) = w1 at *
  generalize w.heap.size = b at *
  have c0 := nb.cell 0
  have c1 := nb.cell 1
  have c2 := nb.cell 2
  have c3 := nb.cell 3
  have c4 := nb.cell 4
  have c5 := nb.cell 5
  have c6 := nb.cell 6
  have c7 := nb.cell 7
  have c8 := nb.cell 8
  have c9 := nb.cell 9
  simp only [List.getElem?_toArray, List.getElem?_cons_succ, List.getElem?_cons_zero] at c0 c1 c2 c3 c4 c5 c6 c7 c8 c9
  cases fb
  · go_wp2_with (go_at_call 84; refine (HF.out _).mono ?_; rintro e w2 ⟨rfl, hx2⟩)
    go_ret
    exact ⟨rfl, hx1.trans hx2⟩
  · go_upto_region 3 with (go_at_call 84; refine (HF.out _).mono ?_; rintro e w2 ⟨rfl, hx2⟩)
    replace c5 := hx2.cell c5
    clear c0 c1 c2 c3 c4 c6 c7 c8 c9 HF
    go_wp2
    go_loopw [11] (fun i wr => ∃ k : Nat, k ≤ subs.length ∧ i = .int .i64 k ∧ formL (subs.take k) = true ∧ Ext w wr) (fun i _ => subs.length - (intOf i).toNat)
    case atStart => exact ⟨0, Nat.zero_le _, rfl, by rw [List.take_zero, formL], hx1.trans hx2⟩
    case round =>
      clear c5
      obtain ⟨k, hk, rfl, hfl, hx⟩ := hrel
      by_cases hlt : k < subs.length
      · obtain ⟨g, o, sv, rfl, hcell, hok⟩ := HS.out.get k hlt
        obtain ⟨A2, c2, rfl⟩ := hok.shape
        have hstep : formL (subs.take (k + 1)) = formB subs[k] := by rw [take_snoc subs k hlt, formL_app, hfl, formL_one, Bool.true_and]
        have hend : formB subs[k] = false → formL subs = false := fun h => by
          have := List.take_append_drop (k + 1) subs
          rw [← this, formL_app, hstep, h, Bool.false_and]
        have IHk := Lib.hid (fun w' (hw' : Ext w w') => IH.out subs[k] (List.getElem_mem hlt) _ w' (NdOk.ext hw' _ _ hok))
        obtain ⟨e0, e1, e2, e3, e4, e5, e6, e7, e8, e9⟩ := node_cells hx hcell
        have HST := Lib.hid hstep
        have HEN := Lib.hid hend
        clear hstep hok hcell IH HS hx1 nb hend hfl
        generalize subs[k] = nk at *
        obtain ⟨⟨k2, t2, n2, mn2, mx2, b2⟩, sub2⟩ := nk
        simp only [Nd.h] at *
        generalize formB (.mk ⟨k2, t2, n2, mn2, mx2, b2⟩ sub2) = res at *
        have d1 : (k : Int) < (subs.length : Int) := by omega
        generalize (Nd.mk ⟨k2, t2, n2, mn2, mx2, b2⟩ sub2).subs.length = len2 at *
        go_upto_region 6 with fail
        have hx4 := hx.alloc (.cells #[.int .i64 k2, .int .u64 (wd t2 0 : Int), .int .u64 (wd t2 1 : Int), .int .u64 (wd t2 2 : Int), .int .u64 (wd t2 3 : Int), .slice A2 len2 c2, .int .i64 n2, .int .i64 mn2, .int .i64 mx2, .bool b2] 27)
        cases res
        · go_wp2_with (go_at_call 68; refine (IHk.out _ hx4).mono ?_; rintro e w' ⟨rfl, hx'⟩)
          go_ret
          exact ⟨by rw [HEN.out (by trivial)]; rfl, hx4.trans hx'⟩
        · go_wp2_with (go_at_call 68; refine (IHk.out _ hx4).mono ?_; rintro e w' ⟨rfl, hx'⟩)
          go_roundw
          case rel => exact ⟨k + 1, by omega, by go_num, by rw [HST.out], hx4.trans hx'⟩
          case measure => simp [intOf]; omega
      · have hkl : subs.take k = subs := List.take_of_length_le (by omega)
        rw [hkl] at hfl
        go_wp2
        go_ret
        exact ⟨by rw [hfl]; rfl, hx⟩

end Go.Proofs.YtgfknlkpdiejgaaGreatDoor

namespace Go.Proofs.YtgfknlkpdiejgaaGreatDoor
open Go.RowKit

/-- w' is w, and more: of w's blocks only those of F may have turned. -/
structure Keeps (F : Nat → Prop) (w w' : World) : Prop where
  os : w'.os = w.os
  tape : w'.tape = w.tape
  output : w'.output = w.output
  size : w.heap.size ≤ w'.heap.size
  block : ∀ k, k < w.heap.size → ¬ F k → w'.heap[k]? = w.heap[k]?

section
variable {F G : Nat → Prop} {w w' w'' : World}
theorem Keeps.refl (F : Nat → Prop) (w : World) : Keeps F w w := ⟨rfl, rfl, rfl, Nat.le_refl _, fun _ _ _ => rfl⟩
theorem Keeps.of_ext (h : Ext w w') : Keeps F w w' := ⟨h.os, h.tape, h.output, Below.size h, fun k hk _ => Below.block h k hk⟩
theorem Keeps.trans (h : Keeps F w w') (k : Keeps G w' w'') (hG : ∀ i, i < w.heap.size → G i → F i) : Keeps F w w'' :=
  ⟨k.os.trans h.os, k.tape.trans h.tape, k.output.trans h.output, Nat.le_trans h.size k.size, fun i hi hF => (k.block i (Nat.lt_of_lt_of_le hi h.size) (fun hg => hF (hG i hi hg))).trans (h.block i hi hF)⟩
theorem Keeps.mono (h : Keeps F w w') (hF : ∀ i, i < w.heap.size → F i → G i) : Keeps G w w' := ⟨h.os, h.tape, h.output, h.size, fun i hi hg => h.block i hi (fun hf => hg (hF i hi hf))⟩
theorem Keeps.drew (h : Keeps F w w') : Keeps F w w'.drew := ⟨h.os, h.tape, h.output, h.size, h.block⟩
theorem Keeps.alloc (h : Keeps F w w') (o : Obj) : Keeps F w (w'.alloc o) := h.trans (Keeps.of_ext (F := F) ((Ext.refl w').alloc o)) (fun _ _ hf => hf)
theorem Keeps.ext' (h : Keeps F w w') (k : Ext w' w'') : Keeps F w w'' := h.trans (Keeps.of_ext (F := F) k) (fun _ _ hf => hf)
theorem Keeps.setCell (h : Keeps F w w') {p : Addr} (hp : w.heap.size ≤ p.block ∨ F p.block) (u : Value) : Keeps F w (w'.setCell p u) := by
  refine ⟨h.os, h.tape, h.output, by rw [World.size_setCell]; exact h.size, fun k hk hf => ?_⟩
  have hne : k ≠ p.block := fun e => by
    rcases hp with hp | hp
    · omega
    · exact hf (e ▸ hp)
  exact (Below.heap_setCell w' p u k hne).trans (h.block k hk hf)
theorem Keeps.grown {row : Option Nat} (h : Keeps F w w') (hg : w'.grownBy w'' row) (hr : ∀ k, row = some k → w.heap.size ≤ k ∨ F k) : Keeps F w w'' := by
  refine ⟨hg.os.trans h.os, hg.tape.trans h.tape, hg.output.trans h.output, Nat.le_trans h.size hg.size, fun k hk hf => (hg.block k (Nat.lt_of_lt_of_le hk h.size) (fun e => ?_)).trans (h.block k hk hf)⟩
  rcases hr k e.symm with h1 | h1
  · omega
  · exact hf h1
theorem Keeps.ext (h : Keeps F w w') (hF : ∀ k, k < w.heap.size → ¬ F k) : Ext w w' := ⟨h.os, h.tape, h.output, h.size, fun k hk => h.block k hk (hF k hk)⟩
theorem Ext.keeps {w0 : World} (h : Ext w0 w) (k : Keeps F w w') (hF : ∀ i, i < w0.heap.size → ¬ F i) : Ext w0 w' :=
  ⟨k.os.trans h.os, k.tape.trans h.tape, k.output.trans h.output, Nat.le_trans (Below.size h) k.size, fun i hi => (k.block i (Nat.lt_of_lt_of_le hi (Below.size h)) (hF i hi)).trans (Below.block h i hi)⟩
theorem Blk.keeps {g : Nat} {t : TypeId} {cs : Array Value} (h : Blk w g t cs) (k : Keeps F w w') (hg : ¬ F g) : Blk w' g t cs := (k.block g h.lt hg).trans h
theorem cell_keeps {p : Addr} {v : Value} (h : w.cell? p = some v) (k : Keeps F w w') (hg : ¬ F p.block) : w'.cell? p = some v :=
  (World.cell?_of_block (k.block p.block (World.block_lt_of_cell? w p h) hg)).trans h
end

theorem Own1.slice {w : World} {B : Nat} {e : TypeId} {v : Value} {xs : List Value} (h : Own1 w B e v xs) :
    (v = .slice none 0 0 ∧ xs = []) ∨ ∃ g cap cur, v = .slice (some ⟨g, 0, none⟩) xs.length cap ∧ B ≤ g ∧ Blk w g e cur ∧ xs.length ≤ cap ∧ cap ≤ maxLen ∧ cur.size = cap := by
  rcases h.2 with ⟨h0, h1⟩ | ⟨g, cap, cur, hv, hg, hh, hnc, hm, hs, _⟩
  · exact .inl ⟨h0, List.eq_nil_of_length_eq_zero h1⟩
  · exact .inr ⟨g, cap, cur, hv, hg, hh, hnc, hm, by omega⟩
theorem Own1.shape {w : World} {B : Nat} {e : TypeId} {v : Value} {xs : List Value} (h : Own1 w B e v xs) : ∃ A c, v = .slice A xs.length c ∧ xs.length ≤ c := by
  rcases h.slice with ⟨rfl, rfl⟩ | ⟨g, cap, cur, rfl, _, _, hc, _⟩
  · exact ⟨none, 0, rfl, Nat.le_refl _⟩
  · exact ⟨_, _, rfl, hc⟩
theorem Own1.own {w : World} {B : Nat} {e : TypeId} {v : Value} {xs : List Value} (h : Own1 w B e v xs) : ∀ k, v.ownBlock = some k → B ≤ k ∧ ∃ cur, Blk w k e cur := fun k hk => by
  rcases h.slice with ⟨rfl, _⟩ | ⟨g, cap, cur, rfl, hg, hb, _⟩
  · cases hk
  · simp only [Value.ownBlock, Option.some.injEq] at hk
    subst hk
    exact ⟨hg, cur, hb⟩
theorem Own1.own_lt {w : World} {B : Nat} {e : TypeId} {v : Value} {xs : List Value} (h : Own1 w B e v xs) (k : Nat) (hk : v.ownBlock = some k) : k < w.heap.size := by
  obtain ⟨_, cur, hb⟩ := h.own k hk
  exact hb.lt
theorem Own1.keeps {w w' : World} {F : Nat → Prop} {B : Nat} {e : TypeId} {v : Value} {xs : List Value} (h : Own1 w B e v xs) (k : Keeps F w w') (hv : ∀ i, v.ownBlock = some i → ¬ F i) : Own1 w' B e v xs := by
  obtain ⟨h1, h2⟩ := h
  refine ⟨h1, ?_⟩
  rcases h2 with h2 | ⟨g, cap, cur, rfl, hg, hh, r⟩
  · exact .inl h2
  · exact .inr ⟨g, cap, cur, rfl, hg, Blk.keeps (t := e) (cs := cur) hh k (hv g rfl), r⟩
/-- Two rows of other element types lie in other blocks. -/
theorem Own1.apart {w : World} {B B' : Nat} {e e' : TypeId} {v v' : Value} {xs ys : List Value} (h : Own1 w B e v xs) (h' : Own1 w B' e' v' ys) (hne : e ≠ e') : ∀ i, v.ownBlock = some i → v'.ownBlock ≠ some i := fun i h1 h2 => by
  obtain ⟨_, c, hb⟩ := h.own i h1
  obtain ⟨_, c', hb'⟩ := h'.own i h2
  exact hb.ne hb' hne rfl
theorem Own1.apartB {w : World} {B g : Nat} {e e' : TypeId} {v : Value} {xs : List Value} {cs : Array Value} (h : Own1 w B e v xs) (h' : Blk w g e' cs) (hne : e ≠ e') : v.ownBlock ≠ some g := fun h1 => by
  obtain ⟨_, c, hb⟩ := h.own g h1
  exact hb.ne h' hne rfl
theorem Own1.cells {w : World} {B : Nat} {e : TypeId} {g n cap : Nat} {xs : List Value} (h : Own1 w B e (.slice (some ⟨g, 0, none⟩) n cap) xs) : n = xs.length ∧ ∀ j u, xs[j]? = some u → w.cell? ⟨g, j, none⟩ = some u := by
  have hn : n = xs.length := by
    rcases h.slice with ⟨h0, _⟩ | ⟨g', cap', cur, hv, _⟩
    · cases h0
    · simp only [Value.slice.injEq] at hv; exact hv.2.1
  refine ⟨hn, fun j u hu => ?_⟩
  subst hn
  have := World.ownsRow.cells (v := .slice (some ⟨g, 0, none⟩) xs.length cap) h (g := g) rfl j u hu
  have ea : (⟨g, 0, none⟩ : Addr).add j = ⟨g, j, none⟩ := by unfold Addr.add; split <;> simp_all
  rwa [ea] at this

/-- 'append(v, nil...)' where the program made v. -/
theorem run_append_none {P : Program} (w : World) (t ty e : TypeId) (i : TypeInfo) (ht : P.underlying t = some (.slice e)) (hi : P.info? e = some i) (B : Nat) (v : Value) (xs : List Value) (h : Own1 w B e v xs) :
    (Builtin.append_ #[t, t] ty #[v, .slice none 0 0]).run P w = .ok v w := by
  rcases h.slice with ⟨rfl, _⟩ | ⟨g, cap, cur, rfl, _, _, hn, _⟩
  · simp [Builtin.append_, run_underlying ht, sizeOf, typeInfo, hi, Builtin.lenOf, Builtin.firstCells]
  · simp [Builtin.append_, run_underlying ht, sizeOf, typeInfo, hi, Builtin.lenOf, Builtin.firstCells, loadCells, storeCells, hn]

/-- 'append(v, x...)' where the program made v; x nil or not. -/
theorem wp_appK {P : Program} {w : World} {o : Oper} {a : Act} {K : Act → World → Prop} {Q : Exit → Act → World → Prop} (s x : Operand) (t : TypeId)
    (ho : o.op = .call { callee := .builtin .append, args := #[s, x], argTypes := #[t, t] })
    (B : Nat) (e : TypeId) (z : Value) (bytes : Nat) (ht : P.underlying t = some (.slice e)) (hi : (P.info? e).map (fun i => (i.zero, i.size, i.bytes)) = some (some z, 1, bytes)) (hzs : z.cells.size = 1)
    (v : Value) (xs news : List Value) (hs : a.eval s = v) (hown : Own1 w B e v xs)
    (hx : (a.eval x = .slice none 0 0 ∧ news = []) ∨ ∃ ad c, a.eval x = .slice (some ad) news.length c ∧ ∀ j u, news[j]? = some u → w.cell? (ad.add j) = some u)
    (h1 : ∀ u ∈ news, u.oneCell' = true)
    (hb : (xs.length + news.length) * bytes ≤ 140737488355328) (hl : xs.length + news.length ≤ 140737488355328) (hbase : B ≤ w.heap.size)
    (h : ∀ v' w', Own1 w' B e v' (xs ++ news) → w.grownBy w' v.ownBlock → (v'.ownBlock = v.ownBlock ∨ v'.ownBlock = some w.heap.size) → (v' = .slice none 0 0 → v = .slice none 0 0) → K (a.put o.dst v') w') : o.wp P a w K Q := by
  obtain ⟨i, hi0, hz0, hz1, hz2⟩ := info_parts hi
  rcases hx with ⟨hx, rfl⟩ | ⟨ad, c, hx, hc⟩
  · unfold Oper.wp execOp
    simp only [ho, resolve, invoke, builtin, Sem.run_bind, Sem.run_pure, Result.andThen_ok, List.map_toArray, List.map_cons, List.map_nil, hs, hx, run_append_none w t o.type e i ht hi0 B v xs hown]
    exact h _ _ (by simpa using hown) ⟨rfl, rfl, rfl, Nat.le_refl _, fun _ _ _ => rfl⟩ (.inl rfl) (fun h => h)
  · obtain ⟨v', w', hr, h2, h3, h4, h5⟩ := run_append_own_at (P := P) w B t o.type e i z 1 bytes ht hi0 hz0 hz1 hz2 hzs (by omega) v xs.length xs hown ad news.length c news (by omega) hc h1 (by simp only [maxLen]; omega) hb hbase
    unfold Oper.wp execOp
    simp only [ho, resolve, invoke, builtin, Sem.run_bind, Sem.run_pure, Result.andThen_ok, List.map_toArray, List.map_cons, List.map_nil, hs, hx, hr]
    exact h v' w' (by unfold Own1; simpa using h2) h3 h5 (fun h => (h4.1 h).1)
theorem wpList_appK {P : Program} {w : World} {ops : Array Oper} {rest : List Oper} {o : Oper} {a : Act} {Q : Exit → Act → World → Prop} (hgd : o.guard = none) (s x : Operand) (t : TypeId)
    (ho : o.op = .call { callee := .builtin .append, args := #[s, x], argTypes := #[t, t] })
    (B : Nat) (e : TypeId) (z : Value) (bytes : Nat) (ht : P.underlying t = some (.slice e)) (hi : (P.info? e).map (fun i => (i.zero, i.size, i.bytes)) = some (some z, 1, bytes)) (hzs : z.cells.size = 1)
    (v : Value) (xs news : List Value) (hs : a.eval s = v) (hown : Own1 w B e v xs)
    (hx : (a.eval x = .slice none 0 0 ∧ news = []) ∨ ∃ ad c, a.eval x = .slice (some ad) news.length c ∧ ∀ j u, news[j]? = some u → w.cell? (ad.add j) = some u)
    (h1 : ∀ u ∈ news, u.oneCell' = true)
    (hb : (xs.length + news.length) * bytes ≤ 140737488355328) (hl : xs.length + news.length ≤ 140737488355328) (hbase : B ≤ w.heap.size)
    (h : ∀ v' w', Own1 w' B e v' (xs ++ news) → w.grownBy w' v.ownBlock → (v'.ownBlock = v.ownBlock ∨ v'.ownBlock = some w.heap.size) → (v' = .slice none 0 0 → v = .slice none 0 0) → wpList P ops Q rest (a.put o.dst v') w') : wpList P ops Q (o :: rest) a w :=
  wpList_plain hgd fun _ hK => wp_appK s x t ho B e z bytes ht hi hzs v xs news hs hown hx h1 hb hl hbase fun v' w' h1 h2 h3 h4 => hK _ _ (h v' w' h1 h2 h3 h4)

end Go.Proofs.YtgfknlkpdiejgaaGreatDoor
