/- The reference's functions on sets of bytes, each as a contract over the set's bytes. No condition. The reference's Bits and Made as contracts over the sets' bytes. No condition. The reference's Made as a contract over the set's bytes. No condition. The reference's Not, Join and Meet as contracts over the sets' bytes. No condition. -/
import Derived.Test.YtkcgbdoplhgbmaaDoorOctet
import Derived.Test.YtkcgbdoplhgbmaaDoorZNormalMakesAA
import Derived.StillTailTactics
import Derived.Deep.WholeRow
import Derived.Deep.RegionHeld3
namespace Go.Proofs.YtkcgbdoplhgbmaaDoor
open Go.RowKit

theorem pow_lt64 (k : Nat) (h : k < 64) : 2 ^ k ≤ 9223372036854775808 := by
  have : 2 ^ k ≤ 2 ^ 63 := Nat.pow_le_pow_right (by decide) (by omega)
  exact this

/-- 2 to the power of n, kept from simp. -/
def p2 (n : Nat) : Nat := 2 ^ n

set_option maxHeartbeats 1000000 in
theorem power_any (n : Nat) (w : World) (hn : n < 64) :
    Calls Tryd.prog 149 #[.int .i64 n] w fun r w' => r = .returned (u64v (p2 n)) ∧ w = w' := by
  unfold u64v
  go_enter Tryd.func149, Tryd.ntmps149
  go_wp2
  go_loop [3, 4] (fun p i => ∃ k : Nat, k ≤ n ∧ i = .int .i64 k ∧ ∃ x : Nat, p = .int .u64 x ∧ Hid (x = p2 k)) (fun _ i => n - (intOf i).toNat)
  case atStart => exact ⟨0, Nat.zero_le _, rfl, 1, rfl, Lib.hid rfl⟩
  case round =>
    obtain ⟨k, hk, rfl, x, rfl, hx⟩ := hrel
    by_cases hlt : k < n
    · have hb : x ≤ 4611686018427387904 := by
        rw [hx.out]
        unfold p2
        exact (Nat.pow_le_pow_right (by decide) (show k ≤ 62 from by omega) : 2 ^ k ≤ 2 ^ 62)
      go_wp2
      go_round
      case rel => exact ⟨k + 1, hlt, by go_num, x * 2, by go_num, Lib.hid (by rw [hx.out]; unfold p2; rw [Nat.pow_succ])⟩
      case measure => simp [intOf]; omega
    · have hks : k = n := by omega
      subst hks
      go_wp2
      go_ret
      exact ⟨by rw [← hx.out]; rfl, rfl⟩

end Go.Proofs.YtkcgbdoplhgbmaaDoor

namespace Go.Proofs.YtkcgbdoplhgbmaaDoor
open Go.RowKit

/-- 256 bools as cells. -/
def bC (p : Nat → Bool) : Array Value := ((List.range 256).map fun b => Value.bool (p b)).toArray
theorem bC_size (p : Nat → Bool) : (bC p).size = 256 := by unfold bC; simp
theorem bC_get (p : Nat → Bool) (i : Nat) (h : i < 256) : (bC p)[i]? = some (.bool (p i)) := by unfold bC; simp [h]
theorem bC_one (p : Nat → Bool) : (bC p).all (·.oneCell') = true := by
  rw [Array.all_eq_true_iff_forall_mem]
  intro x hx
  unfold bC at hx
  simp only [List.mem_toArray, List.mem_map] at hx
  obtain ⟨b, _, rfl⟩ := hx
  rfl
theorem bC_congr {p q : Nat → Bool} (h : ∀ b, b < 256 → p b = q b) : bC p = bC q := by
  unfold bC
  congr 1
  apply List.map_congr_left
  intro b hb
  rw [h b (List.mem_range.1 hb)]
theorem bC_set (p q : Nat → Bool) (i : Nat) (v : Bool) (hv : q i = v) (hq : ∀ b, b ≠ i → q b = p b) : (bC p).setIfInBounds i (.bool v) = bC q := by
  apply Array.ext_getElem?
  intro j
  rw [Array.getElem?_setIfInBounds, bC_size]
  rcases Nat.lt_or_ge j 256 with hj | hj
  · rw [bC_get _ _ hj]
    split
    · rename_i h; subst h; rw [bC_get _ _ hj, hv, if_pos hj]
    · rename_i h; rw [bC_get _ _ hj, hq j (fun e => h e.symm)]
  · have e1 : ∀ r : Nat → Bool, (bC r)[j]? = none := fun r => Array.getElem?_eq_none (by rw [bC_size]; exact hj)
    rw [e1, e1]
    split
    · rw [if_neg (by omega)]
    · rfl
theorem bC_none : bC (fun _ => false) = Array.replicate 256 (.bool false) := by
  apply Array.ext_getElem?
  intro j
  rcases Nat.lt_or_ge j 256 with hj | hj
  · rw [bC_get _ _ hj]; simp [hj]
  · rw [Array.getElem?_eq_none (by rw [bC_size]; exact hj), Array.getElem?_eq_none (by simpa using hj)]
theorem info_bools : (Tryd.prog.info? 178).map (·.size) = some 256 := by kernel_rfl
theorem info_boolsC (p : Nat → Bool) : (Tryd.prog.info? 178).map (·.size) = some (bC p).size := by rw [bC_size]; exact info_bools
theorem bC_sz (p q : Nat → Bool) : (bC p).size = (bC q).size := by rw [bC_size, bC_size]
theorem wpl_loadB {ops : Array Oper} {rest : List Oper} {o : Oper} {a : Act} {w : World} {Q : Exit → Act → World → Prop} (hgd : o.guard = none) (x : Operand) (ho : o.op = .load 178 x)
    (g : Nat) (t : TypeId) (p : Nat → Bool) (hx : a.eval x = .pointer (some ⟨g, 0, none⟩)) (hB : Blk w g t (bC p))
    (h : wpList Tryd.prog ops Q rest (a.put o.dst (.agg (bC p))) w) : wpList Tryd.prog ops Q (o :: rest) a w :=
  wpList_load_row hgd _ x ho g hx t (bC p) (0, 0) _ hB Tryd.underlying178 rfl (info_boolsC p) h
theorem wpl_storeB {ops : Array Oper} {rest : List Oper} {o : Oper} {a : Act} {w : World} {Q : Exit → Act → World → Prop} (hgd : o.guard = none) (x y : Operand) (ho : o.op = .store 178 x y)
    (g : Nat) (t : TypeId) (p q : Nat → Bool) (hx : a.eval x = .pointer (some ⟨g, 0, none⟩)) (hy : a.eval y = .agg (bC p)) (hB : Blk w g t (bC q))
    (h : wpList Tryd.prog ops Q rest (a.put o.dst undef) (w.setRow g (bC p))) : wpList Tryd.prog ops Q (o :: rest) a w :=
  wpList_store_row hgd _ x y ho g (bC p) hx hy t (bC q) hB (info_boolsC p) (bC_sz q p) (bC_one p) h
theorem ret_bools {fn : Func} {x : Tmp} {R : Ending → World → Prop} {a : Act} {w : World} {g : Nat} {t : TypeId} {p : Nat → Bool} (h : fn.results = #[.cell x 178]) (hp : a.tmps.getD x undef = .pointer (some ⟨g, 0, none⟩)) (hd : a.defers = [])
    (hB : Blk w g t (bC p)) (hR : R (.returned (.agg (bC p))) w) : bodyPost Tryd.prog fn R .ret a w :=
  bodyPost_ret (results_cell_row h a.tmps w g t (bC p) (0, 0) _ hp hB Tryd.underlying178 rfl (info_boolsC p)) hd hR

theorem bit_div (p : Nat → Bool) (k : Nat) : ((wd p (k / 64) : Int) / (p2 (k % 64) : Int) % 2 == 1) = p k := by
  have h := wd_bit p (k / 64) (k % 64) (by omega)
  have e : 64 * (k / 64) + k % 64 = k := by omega
  rw [e, Nat.testBit_eq_decide_div_mod_eq] at h
  rw [← h]
  unfold p2
  rw [Bool.eq_iff_iff, beq_iff_eq, decide_eq_true_eq]
  rw [← Int.natCast_ediv]
  generalize wd p (k / 64) / 2 ^ (k % 64) = y
  omega
theorem p2_pos (k : Nat) : 1 ≤ p2 k := Nat.one_le_two_pow
theorem power_same (n : Nat) (w : World) (hn : n < 64) :
    Calls Tryd.prog 149 #[.int .i64 n] w fun r w' => r = .returned (.int .u64 (p2 n : Int)) ∧ w' = w := (power_any n w hn).mono fun _ _ ⟨h1, h2⟩ => ⟨h1, h2.symm⟩

/-- The bytes below k. -/
def lowB (p : Nat → Bool) (k : Nat) : Nat → Bool := fun b => decide (b < k) && p b
theorem lowB_zero (p : Nat → Bool) : lowB p 0 = fun _ => false := by funext b; simp [lowB]
theorem lowB_full (p : Nat → Bool) (k : Nat) (h : 256 ≤ k) : bC (lowB p k) = bC p := bC_congr fun b hb => by
  unfold lowB
  have : decide (b < k) = true := by simp; omega
  rw [this, Bool.true_and]
theorem lowB_at (p : Nat → Bool) (k : Nat) : lowB p (k + 1) k = p k := by simp [lowB]
theorem lowB_ne (p : Nat → Bool) (k b : Nat) (h : b ≠ k) : lowB p (k + 1) b = lowB p k b := by
  unfold lowB
  have : decide (b < k + 1) = decide (b < k) := by rw [decide_eq_decide]; omega
  rw [this]

set_option maxRecDepth 100000 in
set_option maxHeartbeats 2000000 in
theorem bits_any (p : Nat → Bool) (w : World) :
    Calls Tryd.prog 139 #[setV p] w fun r w' => r = .returned (.agg (bC p)) ∧ Ext w w' := by
  have HP := Lib.hid (fun n W h => power_same n W h)
  have HB := Lib.hid (bit_div p)
  have hzz := (zero_of_info (P := Tryd.prog) (t := 178) (v := .agg (bC fun _ => false)) (n := 256) (by rw [bC_none]; kernel_rfl)).1
  go_enter Tryd.func139, Tryd.ntmps139
  unfold setV u64v
  go_wp2
  obtain ⟨w1, hw1⟩ : ∃ w1, w1 = w.alloc (.cells #[.int .u64 (wd p 0 : Int), .int .u64 (wd p 1 : Int), .int .u64 (wd p 2 : Int), .int .u64 (wd p 3 : Int)] 24) := ⟨_, rfl⟩
  have ha : Blk w1 w.heap.size 24 (setC p) := by rw [hw1]; exact Blk.new w _ _
  have hx1 : Ext w w1 := by rw [hw1]; exact (Ext.refl w).alloc _
  have hsz : w1.heap.size = w.heap.size + 1 := by rw [hw1]; simp
  rw [← hw1, ← hsz]
  have hr0 := (Blk.new w1 178 (bC fun _ => false)).alloc (.cells (bC fun _ => false) 178)
  have hs0 := heap_alloc2_new w1 (.cells (bC fun _ => false) 178) (.cells (bC fun _ => false) 178)
  have ha0 := (ha.alloc (.cells (bC fun _ => false) 178)).alloc (.cells (bC fun _ => false) 178)
  have hx0 := (hx1.alloc (.cells (bC fun _ => false) 178)).alloc (.cells (bC fun _ => false) 178)
  have hlt1 : w.heap.size < w1.heap.size := by omega
  clear hw1 ha hx1 hsz
  generalize (w1.alloc (.cells (bC fun _ => false) 178)).alloc (.cells (bC fun _ => false) 178) = w2 at *
  generalize w1.heap.size = R at *
  clear w1
  go_loopw [4] (fun i wr => ∃ k : Nat, k ≤ 256 ∧ i = .int .i64 k ∧ Blk wr (R + 1) 178 (bC (lowB p k)) ∧ Blk wr R 178 (bC fun _ => false) ∧ Blk wr w.heap.size 24 (setC p) ∧ Ext w wr) (fun i _ => 256 - (intOf i).toNat)
  case atStart => exact ⟨0, by omega, rfl, by rw [lowB_zero]; exact hs0, hr0, ha0, hx0⟩
  case round =>
    clear hs0 hr0 ha0 hx0
    obtain ⟨k, hk, rfl, hs, hr, ha, hx⟩ := hrel
    by_cases hlt : k < 256
    · have hi4 : k / 64 < 4 := by omega
      have c1 := ha.cell (k / 64)
      rw [setC_get _ _ hi4] at c1
      unfold u64v at c1
      have c2 := hs.cell k
      rw [bC_get _ _ hlt] at c2
      have f2 := hs.frozen k
      have hpp := p2_pos (k % 64)
      have hp := HP.out (k % 64)
      have hbd := HB.out k
      have HBD := Lib.hid hbd
      have hm : k % 64 < 64 := by omega
      clear hbd
      generalize hpe : p2 (k % 64) = y at *
      clear hpe
      go_wp2
      have q1 : IntKind.i64.wrap ((k : Int) / 64) = ((k / 64 : Nat) : Int) := by rw [IntKind.wrap_i64]; omega
      have q2 : IntKind.i64.wrap ((k : Int) % 64) = ((k % 64 : Nat) : Int) := by rw [IntKind.wrap_i64]; omega
      have q3 : (0 : Int) ≤ (k : Int) / 64 := by omega
      have q4 : (k : Int) / 64 < 4 := by omega
      have q5 : ((k : Int) / 64).toNat = k / 64 := by omega
      have q6 : (k : Int) < 256 := by omega
      have q7 : ¬ (y = 0) := by omega
      have qw := wd_lt p (k / 64)
      generalize wd p (k / 64) = x at *
      have qn : 0 ≤ (x : Int) / (y : Int) := Int.ediv_nonneg (by omega) (by omega)
      have qm : (x : Int) / (y : Int) ≤ (x : Int) := by
        rw [← Int.natCast_ediv]
        have := Nat.div_le_self x y
        omega
      have q8 : IntKind.u64.wrap ((x : Int) / (y : Int)) = (x : Int) / (y : Int) := by rw [IntKind.wrap_u64]; omega
      have q9 : ((x : Int) / (y : Int)).tmod 2 = (x : Int) / (y : Int) % 2 := Int.tmod_eq_emod_of_nonneg qn
      have q10 : IntKind.u64.wrap ((x : Int) / (y : Int) % 2) = (x : Int) / (y : Int) % 2 := by rw [IntKind.wrap_u64]; omega
      go_still_tail 12, (by kernel_rfl)
      still_call (hp _ hm)
      repeat still_step
      refine wpStill_nil ?_
      change wpList _ _ _ _ _ wr.drew
      clear q1 q2 q3 q4 q5 q6 q7 q8 q9 q10 qn qm qw
      go_wp2
      go_roundw
      case rel =>
        refine ⟨k + 1, by omega, by go_num, ?_, (hr.far (by simp) _).drew, (ha.far (by simp; omega) _).drew, (hx.setCell (by simp; omega) _).drew⟩
        rw [HBD.out, ← bC_set (lowB p k) (lowB p (k + 1)) k (p k) (lowB_at p k) (lowB_ne p k)]
        exact (hs.set k _).drew
      case measure => simp [intOf]; omega
    · have hk2 : 256 ≤ k := by omega
      rw [lowB_full p k hk2] at hs
      clear hk2
      go_wp2_with (first
        | (refine wpl_loadB rfl (.tmp 3) rfl (R + 1) _ p rfl hs ?_)
        | (refine wpl_storeB rfl (.tmp 2) (.tmp 21) rfl R _ p (fun _ => false) rfl rfl hr ?_))
      exact ret_bools rfl rfl rfl hr.setRow ⟨rfl, hx.setRow (by omega) _⟩

theorem lowB_same (p : Nat → Bool) (k : Nat) (h : p k = false) : lowB p (k + 1) = lowB p k := by
  funext b
  by_cases hb : b = k
  · subst hb; rw [lowB_at, h]; simp [lowB]
  · exact lowB_ne p k b hb
theorem lowB_setC (p : Nat → Bool) (k : Nat) (h : 256 ≤ k) : setC (lowB p k) = setC p := by
  have : ∀ i, i < 4 → wd (lowB p k) i = wd p i := fun i hi => wd_congr fun j hj => by
    unfold lowB
    have : decide (64 * i + j < k) = true := by simp; omega
    rw [this, Bool.true_and]
  unfold setC
  rw [this 0 (by omega), this 1 (by omega), this 2 (by omega), this 3 (by omega)]
theorem lowB_add (p : Nat → Bool) (k : Nat) (h : p k = true) : wd (lowB p k) (k / 64) + p2 (k % 64) = wd (lowB p (k + 1)) (k / 64) := by
  have hlt : wd (lowB p k) (k / 64) < 2 ^ (k % 64) := by
    apply Nat.lt_pow_two_of_testBit
    intro i hi
    by_cases h64 : i < 64
    · rw [wd_bit _ _ _ h64]
      unfold lowB
      have : decide (64 * (k / 64) + i < k) = false := by simp; omega
      rw [this, Bool.false_and]
    · exact Nat.testBit_lt_two_pow (Nat.lt_of_lt_of_le (wd_lt _ _) (Nat.pow_le_pow_right (n := 2) (by decide) (show 64 ≤ i by omega)))
  have e : lowB p (k + 1) = insB (lowB p k) k := by
    funext b
    unfold insB
    by_cases hb : b = k
    · subst hb; rw [lowB_at, h]; simp
    · have : (b == k) = false := by simpa using hb
      rw [this, Bool.or_false, lowB_ne p k b hb]
  rw [e, ← wd_ins, Nat.or_comm]
  have := Nat.two_pow_add_eq_or_of_lt hlt 1
  rw [Nat.mul_one] at this
  unfold p2
  omega

end Go.Proofs.YtkcgbdoplhgbmaaDoor

namespace Go.Proofs.YtkcgbdoplhgbmaaDoor
open Go.RowKit

set_option maxRecDepth 100000 in
set_option maxHeartbeats 2000000 in
theorem made_any (p : Nat → Bool) (w : World) :
    Calls Tryd.prog 140 #[.agg (bC p)] w fun r w' => r = .returned (setV p) ∧ Ext w w' := by
  have HP := Lib.hid (fun n W h => power_same n W h)
  have HB := Lib.hid (lowB_add p)
  go_enter Tryd.func140, Tryd.ntmps140
  go_wp2
  obtain ⟨w1, hw1⟩ : ∃ w1, w1 = w.alloc (.cells (bC p) 178) := ⟨_, rfl⟩
  have ha : Blk w1 w.heap.size 178 (bC p) := by rw [hw1]; exact Blk.new w _ _
  have hx1 : Ext w w1 := by rw [hw1]; exact (Ext.refl w).alloc _
  have hsz : w1.heap.size = w.heap.size + 1 := by rw [hw1]; simp
  rw [← hw1, ← hsz, ← setC_none]
  have hr0 := (Blk.new w1 24 (setC fun _ => false)).alloc (.cells (setC fun _ => false) 24)
  have hs0 := heap_alloc2_new w1 (.cells (setC fun _ => false) 24) (.cells (setC fun _ => false) 24)
  have ha0 := (ha.alloc (.cells (setC fun _ => false) 24)).alloc (.cells (setC fun _ => false) 24)
  have hx0 := (hx1.alloc (.cells (setC fun _ => false) 24)).alloc (.cells (setC fun _ => false) 24)
  have hlt1 : w.heap.size < w1.heap.size := by omega
  clear hw1 ha hx1 hsz
  generalize (w1.alloc (.cells (setC fun _ => false) 24)).alloc (.cells (setC fun _ => false) 24) = w2 at *
  generalize w1.heap.size = R at *
  clear w1
  go_loopw [4] (fun i wr => ∃ k : Nat, k ≤ 256 ∧ i = .int .i64 k ∧ Blk wr (R + 1) 24 (setC (lowB p k)) ∧ Blk wr R 24 (setC fun _ => false) ∧ Blk wr w.heap.size 178 (bC p) ∧ Ext w wr) (fun i _ => 256 - (intOf i).toNat)
  case atStart => exact ⟨0, by omega, rfl, by rw [lowB_zero]; exact hs0, hr0, ha0, hx0⟩
  case round =>
    clear hs0 hr0 ha0 hx0
    obtain ⟨k, hk, rfl, hs, hr, ha, hx⟩ := hrel
    by_cases hlt : k < 256
    · have hi4 : k / 64 < 4 := by omega
      have c1 := hs.cell (k / 64)
      rw [setC_get _ _ hi4] at c1
      unfold u64v at c1
      have c2 := ha.cell k
      rw [bC_get _ _ hlt] at c2
      have f2 := hs.frozen (k / 64)
      cases hpk : p k with
      | false =>
        rw [hpk] at c2
        have hl := lowB_same p k hpk
        have HL := Lib.hid hl
        clear hl hpk
        go_wp2
        go_roundw
        case rel => exact ⟨k + 1, by omega, by go_num, by rw [HL.out]; exact hs, hr, ha, hx⟩
        case measure => simp [intOf]; omega
      | true =>
        rw [hpk] at c2
        have hadd := HB.out k hpk
        have hp := HP.out (k % 64)
        have hm : k % 64 < 64 := by omega
        have hsum := wd_lt (lowB p (k + 1)) (k / 64)
        rw [← hadd] at hsum
        have HA := Lib.hid hadd
        have HN : Hid (∀ j, j < 4 → j ≠ k / 64 → wd (lowB p (k + 1)) j = wd (lowB p k) j) := Lib.hid (fun j _ hj => wd_congr (fun i hi => lowB_ne p k (64 * j + i) (by omega)))
        clear hpk hadd
        generalize hye : p2 (k % 64) = y at *
        generalize hxe : wd (lowB p k) (k / 64) = x at *
        clear hye hxe
        go_wp2
        have q1 : IntKind.i64.wrap ((k : Int) / 64) = ((k / 64 : Nat) : Int) := by rw [IntKind.wrap_i64]; omega
        have q2 : IntKind.i64.wrap ((k : Int) % 64) = ((k % 64 : Nat) : Int) := by rw [IntKind.wrap_i64]; omega
        have q3 : (0 : Int) ≤ (k : Int) / 64 := by omega
        have q4 : (k : Int) / 64 < 4 := by omega
        have q5 : ((k : Int) / 64).toNat = k / 64 := by omega
        have q6 : IntKind.u64.wrap ((x : Int) + (y : Int)) = (x : Int) + (y : Int) := by rw [IntKind.wrap_u64]; omega
        go_still_tail 11, (by kernel_rfl)
        still_call (hp _ hm)
        repeat still_step
        refine wpStill_nil ?_
        change wpList _ _ _ _ _ wr.drew
        clear q1 q2 q3 q4 q5 q6
        go_wp2
        go_roundw
        case rel =>
          refine ⟨k + 1, by omega, by go_num, ?_, (hr.far (by simp) _).drew, (ha.far (by simp; omega) _).drew, (hx.setCell (by simp; omega) _).drew⟩
          rw [← setC_put (lowB p k) (lowB p (k + 1)) (k / 64) (x + y) hi4 HA.out HN.out]
          exact (hs.set (k / 64) _).drew
        case measure => simp [intOf]; omega
    · have hk2 : 256 ≤ k := by omega
      rw [lowB_setC p k hk2] at hs
      clear hk2
      go_wp2_with (first
        | (refine wpl_loadSet rfl (.tmp 3) rfl (R + 1) _ p rfl hs ?_)
        | (refine wpl_storeSet rfl (.tmp 2) (.tmp 23) rfl R _ p (fun _ => false) rfl rfl hr ?_))
      exact ret_set rfl rfl rfl hr.setRow ⟨rfl, hx.setRow (by omega) _⟩

/-- One up to k, another one behind. -/
def upB (q p : Nat → Bool) (k : Nat) : Nat → Bool := fun b => if b < k then q b else p b
theorem upB_zero (q p : Nat → Bool) : upB q p 0 = p := by funext b; simp [upB]
theorem upB_full (q p : Nat → Bool) (k : Nat) (h : 256 ≤ k) : bC (upB q p k) = bC q := bC_congr fun b hb => by unfold upB; rw [if_pos (by omega)]
theorem upB_at (q p : Nat → Bool) (k : Nat) : upB q p (k + 1) k = q k := by simp [upB]
theorem upB_here (q p : Nat → Bool) (k : Nat) : upB q p k k = p k := by simp [upB]
theorem upB_ne (q p : Nat → Bool) (k b : Nat) (h : b ≠ k) : upB q p (k + 1) b = upB q p k b := by
  unfold upB
  by_cases hb : b < k
  · rw [if_pos hb, if_pos (by omega)]
  · rw [if_neg hb, if_neg (by omega)]
theorem zero_bools : ∀ w, (zeroValue 178).run Tryd.prog w = .ok (.agg (bC fun _ => false)) w :=
  (zero_of_info (P := Tryd.prog) (t := 178) (v := .agg (bC fun _ => false)) (n := 256) (by rw [bC_none]; kernel_rfl)).1

end Go.Proofs.YtkcgbdoplhgbmaaDoor

namespace Go.Proofs.YtkcgbdoplhgbmaaDoor
open Go.RowKit

end Go.Proofs.YtkcgbdoplhgbmaaDoor
