/- The program's Of and Range as contracts over the set's bytes. No condition but the length of what comes in. The program's Join, Meet and Count as contracts over the sets' bytes. No condition but the number of sets that come in. The law for drawn regions over sets: each operation's temporary holds a set, a row of sets or a known value. No condition. As InvT's law, and behind the first n operations several more, one behind the other, that may write. No condition. -/
import Derived.Test.YtkcgbdoplhgbmaaDoorOctet
import Derived.Laws.Tables
import Derived.Laws.CopyOwn
import Derived.Test.YtkcgbdoplhgbmaaDoorPop
import Derived.Test.YtkcgbdoplhgbmaaDoorInv
namespace Go.Proofs.YtkcgbdoplhgbmaaDoor
open Go.RowKit

theorem i64_mask63 (k : Nat) (h : k < 9223372036854775808) : bits .and .i64 (k : Int) 63 = ((k % 64 : Nat) : Int) := by
  have hx : (BitVec.ofInt 64 (k : Int)).toNat = k := by
    rw [BitVec.ofInt_natCast, BitVec.toNat_ofNat]; exact Nat.mod_eq_of_lt (by omega)
  show IntKind.i64.wrap ((BitVec.ofInt 64 (k : Int) &&& BitVec.ofInt 64 63).toNat : Int) = _
  have h63 : (BitVec.ofInt 64 63).toNat = 2 ^ 6 - 1 := by decide
  rw [BitVec.toNat_and, hx, h63, Nat.and_two_pow_sub_one_eq_mod, IntKind.wrap_i64]
  omega
/-- The bytes of a list. -/
def ofL (l : List Nat) : Nat → Bool := fun b => l.contains b
/-- A slice of bytes reads as a list. -/
def RdB (w : World) (v : Value) (l : List Nat) : Prop :=
  ∃ A c, v = .slice A l.length c ∧ ∀ j, j < l.length → ∃ g o, A = some ⟨g, o, none⟩ ∧ w.cell? ⟨g, o + j, none⟩ = some (.int .u8 (l.getD j 0 : Nat))
theorem RdB.ext {w w' : World} {v : Value} {l : List Nat} (h : RdB w v l) (hx : Ext w w') : RdB w' v l := by
  obtain ⟨A, c, hv, hc⟩ := h
  exact ⟨A, c, hv, fun j hj => by obtain ⟨g, o, hA, hcell⟩ := hc j hj; exact ⟨g, o, hA, hx.cell hcell⟩⟩

theorem ofL_snoc (l : List Nat) (k : Nat) (h : k < l.length) : ofL (l.take (k + 1)) = insB (ofL (l.take k)) (l.getD k 0) := by
  funext x
  unfold ofL insB
  rw [List.getD_eq_getElem?_getD, List.getElem?_eq_getElem h, List.take_succ_eq_append_getElem h, Bool.eq_iff_iff]
  simp only [List.contains_eq_mem, decide_eq_true_eq, List.mem_append, List.mem_singleton, Option.getD_some, Bool.or_eq_true, beq_iff_eq]
/-- The bytes from lo up to k (k itself not). -/
def upTo (lo k : Nat) : Nat → Bool := fun x => decide (lo ≤ x) && decide (x < k)
def rangeB (lo hi : Nat) : Nat → Bool := fun x => decide (lo ≤ x) && decide (x ≤ hi)
theorem upTo_ins (lo k : Nat) (h : lo ≤ k) : insB (upTo lo k) k = upTo lo (k + 1) := by
  funext x
  unfold insB upTo
  rw [Bool.eq_iff_iff]
  simp only [Bool.or_eq_true, Bool.and_eq_true, decide_eq_true_eq, beq_iff_eq]
  omega
theorem upTo_self (lo : Nat) : upTo lo lo = fun _ => false := by
  funext x
  unfold upTo
  rw [Bool.eq_iff_iff]
  simp only [Bool.and_eq_true, decide_eq_true_eq, Bool.false_eq_true, iff_false]
  omega
theorem upTo_range (lo hi k : Nat) (h2 : ¬ k ≤ hi) (h3 : k ≤ hi + 1 ∨ k = lo) : upTo lo k = rangeB lo hi := by
  funext x
  unfold upTo rangeB
  rw [Bool.eq_iff_iff]
  simp only [Bool.and_eq_true, decide_eq_true_eq]
  omega

end Go.Proofs.YtkcgbdoplhgbmaaDoor

namespace Go.Proofs.YtkcgbdoplhgbmaaDoor
open Go.RowKit

/-- Four words. -/
def wC (a : Nat → Nat) : Array Value := #[u64v (a 0), u64v (a 1), u64v (a 2), u64v (a 3)]
theorem wC_get (a : Nat → Nat) (i : Nat) (h : i < 4) : (wC a)[i]? = some (u64v (a i)) := by
  rcases (show i = 0 ∨ i = 1 ∨ i = 2 ∨ i = 3 from by omega) with rfl | rfl | rfl | rfl <;> rfl
/-- The first k words of one, the others of another one. -/
def mix (a b : Nat → Nat) (k : Nat) : Nat → Nat := fun j => if j < k then a j else b j
theorem mix_zero (a b : Nat → Nat) : mix a b 0 = b := by funext j; unfold mix; rw [if_neg (by omega)]
theorem mix_at (a b : Nat → Nat) (k : Nat) : mix a b k k = b k := by unfold mix; rw [if_neg (by omega)]
theorem wC_full (a b : Nat → Nat) (k : Nat) (h : 4 ≤ k) : wC (mix a b k) = wC a := by
  unfold wC mix
  rw [if_pos (by omega), if_pos (by omega), if_pos (by omega), if_pos (by omega)]
theorem wC_put (a b : Nat → Nat) (k : Nat) (h : k < 4) : (wC (mix a b k)).setIfInBounds k (u64v (a k)) = wC (mix a b (k + 1)) := by
  unfold wC mix
  rcases (show k = 0 ∨ k = 1 ∨ k = 2 ∨ k = 3 from by omega) with rfl | rfl | rfl | rfl <;> rfl
theorem setC_wC (p : Nat → Bool) : setC p = wC (wd p) := rfl

def noB : Nat → Bool := fun _ => false
/-- A slice of sets reads as a list. -/
def RdS (w : World) (v : Value) (ps : List (Nat → Bool)) : Prop :=
  ∃ A c, v = .slice A ps.length c ∧ ∀ j, j < ps.length → ∃ g o, A = some ⟨g, o, none⟩ ∧ ∀ i, i < 4 → w.cell? ⟨g, o + j * 4 + i, none⟩ = some (u64v (wd (ps.getD j noB) i))
theorem RdS.ext {w w' : World} {v : Value} {ps : List (Nat → Bool)} (h : RdS w v ps) (hx : Ext w w') : RdS w' v ps := by
  obtain ⟨A, c, hv, hc⟩ := h
  exact ⟨A, c, hv, fun j hj => by obtain ⟨g, o, hA, hcell⟩ := hc j hj; exact ⟨g, o, hA, fun i hi => hx.cell (hcell i hi)⟩⟩

def joinL (ps : List (Nat → Bool)) : Nat → Bool := fun b => ps.any (· b)
def meetL (ps : List (Nat → Bool)) : Nat → Bool := fun b => ps.all (· b)
theorem take_snocL {α : Type} (l : List α) (d : α) (k : Nat) (h : k < l.length) : l.take (k + 1) = l.take k ++ [l.getD k d] := by
  rw [List.take_succ_eq_append_getElem h, List.getD_eq_getElem?_getD, List.getElem?_eq_getElem h]
  rfl
theorem joinL_snoc (ps : List (Nat → Bool)) (k : Nat) (h : k < ps.length) : joinL (ps.take (k + 1)) = fun b => joinL (ps.take k) b || ps.getD k noB b := by
  funext b
  unfold joinL
  rw [take_snocL ps noB k h, List.any_append]
  simp
theorem meetL_snoc (ps : List (Nat → Bool)) (k : Nat) (h : k < ps.length) : meetL (ps.take (k + 1)) = fun b => meetL (ps.take k) b && ps.getD k noB b := by
  funext b
  unfold meetL
  rw [take_snocL ps noB k h, List.all_append]
  simp

theorem or_words (p q : Nat → Bool) (i : Nat) : bits .or .u64 (wd p i : Int) (wd q i : Int) = (wd (fun b => p b || q b) i : Int) := by
  rw [u64_or_nat _ _ (wd_lt p i) (wd_lt q i), wd_or]
theorem and_words (p q : Nat → Bool) (i : Nat) : bits .and .u64 (wd p i : Int) (wd q i : Int) = (wd (fun b => p b && q b) i : Int) := by
  rw [u64_and_nat _ _ (wd_lt p i) (wd_lt q i), wd_and]

set_option maxHeartbeats 4000000 in
theorem join_any (ps : List (Nat → Bool)) (v : Value) (w : World) (hv : RdS w v ps) (hl : ps.length ≤ 1000000000000) :
    Calls Tryd.prog 125 #[v] w fun r w' => r = .returned (setV (joinL ps)) ∧ Ext w w' := by
  obtain ⟨A, c, rfl, hc⟩ := hv
  have HC := Lib.hid hc
  clear hc
  go_enter Tryd.func125, Tryd.ntmps125
  go_wp2
  go_loopw [5, 6, 9, 13] (fun _ _ i _ wr => ∃ k : Nat, k ≤ ps.length ∧ i = .int .i64 k ∧ Blk wr (w.heap.size + 1) 24 (setC (joinL (ps.take k))) ∧ Blk wr w.heap.size 24 (setC (fun _ => false)) ∧ Ext w wr) (fun _ _ i _ _ => ps.length - (intOf i).toNat)
  case atStart =>
    refine ⟨0, Nat.zero_le _, rfl, ?_, ?_, ((Ext.refl w).alloc _).alloc _⟩
    · rw [show joinL (ps.take 0) = fun _ => false from rfl, setC_none]; exact heap_alloc2_new w _ _
    · rw [setC_none]; exact (Blk.new w _ _).alloc _
  case round =>
    obtain ⟨k, hk, rfl, hs, hr, hx⟩ := hrel
    by_cases hlt : k < ps.length
    · obtain ⟨g, o, rfl, hcell⟩ := HC.out k hlt
      have JS := Lib.hid (joinL_snoc ps k hlt)
      have c0 := hx.cell (hcell 0 (by omega))
      have c1 := hx.cell (hcell 1 (by omega))
      have c2 := hx.cell (hcell 2 (by omega))
      have c3 := hx.cell (hcell 3 (by omega))
      generalize ps.getD k noB = q at *
      generalize joinL (ps.take k) = p at *
      clear hcell HC
      rw [Nat.add_zero] at c0
      unfold u64v at c0 c1 c2 c3
      have hz := hx.size
      have hz2 := hs.lt
      go_wp2
      have hq : Blk (wr.alloc (.cells #[.int .u64 (wd q 0 : Int), .int .u64 (wd q 1 : Int), .int .u64 (wd q 2 : Int), .int .u64 (wd q 3 : Int)] 24)) wr.heap.size 24 (setC q) := Blk.new wr _ _
      have hs2 := hs.alloc (.cells #[.int .u64 (wd q 0 : Int), .int .u64 (wd q 1 : Int), .int .u64 (wd q 2 : Int), .int .u64 (wd q 3 : Int)] 24)
      have hr2 := hr.alloc (.cells #[.int .u64 (wd q 0 : Int), .int .u64 (wd q 1 : Int), .int .u64 (wd q 2 : Int), .int .u64 (wd q 3 : Int)] 24)
      have hx2 := hx.alloc (.cells #[.int .u64 (wd q 0 : Int), .int .u64 (wd q 1 : Int), .int .u64 (wd q 2 : Int), .int .u64 (wd q 3 : Int)] 24)
      clear c0 c1 c2 c3 hs hr hx
      obtain ⟨G, HG⟩ : ∃ G, Hid (G = wr.heap.size) := ⟨_, Lib.hid rfl⟩
      rw [← HG.out] at hq ⊢
      rw [← HG.out] at hz hz2
      generalize wr.alloc (.cells #[.int .u64 (wd q 0 : Int), .int .u64 (wd q 1 : Int), .int .u64 (wd q 2 : Int), .int .u64 (wd q 3 : Int)] 24) = wy at *
      clear HG wr
      go_loopw [6, 13] (fun _ i wr => ∃ j : Nat, j ≤ 4 ∧ i = .int .i64 j ∧ Blk wr (w.heap.size + 1) 24 (wC (mix (wd fun b => p b || q b) (wd p) j)) ∧ Blk wr G 24 (setC q) ∧ Blk wr w.heap.size 24 (setC (fun _ => false)) ∧ Ext w wr) (fun _ i _ => 4 - (intOf i).toNat)
      case atStart => exact ⟨0, by omega, rfl, by rw [mix_zero]; exact hs2, hq, hr2, hx2⟩
      case round =>
        clear hs2 hq hr2 hx2
        obtain ⟨j, hj, rfl, hs, hq, hr, hx⟩ := hrel
        by_cases hj4 : j < 4
        · have c1 := hs.cell j
          rw [wC_get _ _ hj4, mix_at] at c1
          have c2 := hq.cell j
          rw [setC_get _ _ hj4] at c2
          unfold u64v at c1 c2
          have f1 := hs.frozen j
          go_wp2
          go_region
          go_wp2
          go_roundw
          case rel =>
            have hp := hs.set j (u64v (wd (fun b => p b || q b) j))
            rw [wC_put _ _ _ hj4] at hp
            rw [or_words]
            exact ⟨j + 1, by omega, by go_num, hp.drew, (hq.far (by simp; omega) _).drew, (hr.far (by simp) _).drew, (hx.setCell (by simp) _).drew⟩
          case measure => simp [intOf]; omega
        · rw [wC_full _ _ _ (by omega)] at hs
          go_wp2
          go_roundw
          case rel => exact ⟨k + 1, by omega, by go_num, by rw [JS.out]; exact hs, hr, hx⟩
          case measure => simp [intOf]; omega
    · rw [List.take_of_length_le (by omega)] at hs
      go_wp2_with (first
        | (refine wpl_loadSet rfl (.tmp 3) rfl (w.heap.size + 1) _ (joinL ps) rfl hs ?_)
        | (refine wpl_storeSet rfl (.tmp 2) (.tmp 26) rfl w.heap.size _ (joinL ps) (fun _ => false) rfl rfl hr ?_))
      exact ret_set rfl rfl rfl hr.setRow ⟨rfl, hx.setRow (Nat.le_refl _) _⟩

theorem wd_full (i : Nat) : wd (fun b => !noB b) i = wd (fun _ => true) i := rfl
theorem mask85 : dg 8 (fun _ => 85) = 6148914691236517205 := by decide
theorem mask51 : dg 8 (fun _ => 51) = 3689348814741910323 := by decide
theorem mask15 : dg 8 (fun _ => 15) = 1085102592571150095 := by decide

theorem u64_wrap_nat (x : Nat) (h : x < 18446744073709551616) : IntKind.u64.wrap (x : Int) = (x : Int) := by rw [IntKind.wrap_u64]; omega
theorem ones_step (a b M : Nat) (ha : a < 18446744073709551616) (hb : b < 18446744073709551616) (hM : M < 18446744073709551616) (h : (a &&& M) + (b &&& M) < 18446744073709551616) :
    IntKind.u64.wrap (bits .and .u64 (a : Int) (M : Int) + bits .and .u64 (b : Int) (M : Int)) = (((a &&& M) + (b &&& M) : Nat) : Int) := by
  rw [u64_and_nat _ _ ha hM, u64_and_nat _ _ hb hM, ← Int.natCast_add, u64_wrap_nat _ h]
theorem ones_shift (x d : Nat) (h : x + x / d < 18446744073709551616) : IntKind.u64.wrap ((x : Int) + (x : Int) / (d : Int)) = ((x + x / d : Nat) : Int) := by
  rw [← Int.natCast_ediv, ← Int.natCast_add, u64_wrap_nat _ h]

theorem cntB_words (p : Nat → Bool) : cntB p 256 = cntB (fun k => p (64 * 0 + k)) 64 + cntB (fun k => p (64 * 1 + k)) 64 + cntB (fun k => p (64 * 2 + k)) 64 + cntB (fun k => p (64 * 3 + k)) 64 := by
  have h3 := cntB_add p 192 64
  have h2 := cntB_add p 128 64
  have h1 := cntB_add p 64 64
  have e0 : (fun k => p (64 * 0 + k)) = p := by funext k; congr 1; omega
  rw [e0]
  simp only [Nat.reduceMul, Nat.reduceAdd] at *
  omega

end Go.Proofs.YtkcgbdoplhgbmaaDoor

namespace Go.Proofs.YtkcgbdoplhgbmaaDoor
open Go Go.RowKit

theorem stepQ_mk {K : Act → World → Prop} {a : Act} {w : World} (h : K a w) : stepQ K .normal a w := h
inductive Tg where
  | set (p : Nat → Bool)
  | sl (ps : List (Nat → Bool))
  | one (v : Value)
def Tg.ok : Tg → Value → World → Prop
  | .set p, v, _ => v = .agg #[.int .u64 (wd p 0 : Int), .int .u64 (wd p 1 : Int), .int .u64 (wd p 2 : Int), .int .u64 (wd p 3 : Int)]
  | .sl ps, v, W => RdS W v ps
  | .one x, v, _ => v = x
def postL (tg : List Tg) (i : Nat) (v : Value) (W : World) : Prop := match tg[i]? with | some t => t.ok v W | none => True
theorem postL_ext (tg : List Tg) (i : Nat) (v : Value) (W W' : World) (hx : Ext W W') (h : postL tg i v W) : postL tg i v W' := by
  unfold postL at *
  cases e : tg[i]? with
  | none => trivial
  | some t =>
    rw [e] at h
    cases t with
    | set p => exact h
    | sl ps => exact RdS.ext h hx
    | one x => exact h

theorem get_set {tg : List Tg} {i : Nat} {v : Value} {W : World} {p : Nat → Bool} (h : tg[i]? = some (.set p)) (hp : postL tg i v W) : v = .agg #[.int .u64 (wd p 0 : Int), .int .u64 (wd p 1 : Int), .int .u64 (wd p 2 : Int), .int .u64 (wd p 3 : Int)] := by
  unfold postL at hp; rw [h] at hp; exact hp
theorem get_sl {tg : List Tg} {i : Nat} {v : Value} {W : World} {ps : List (Nat → Bool)} (h : tg[i]? = some (.sl ps)) (hp : postL tg i v W) : RdS W v ps := by
  unfold postL at hp; rw [h] at hp; exact hp
theorem get_one {tg : List Tg} {i : Nat} {v x : Value} {W : World} (h : tg[i]? = some (.one x)) (hp : postL tg i v W) : v = x := by
  unfold postL at hp; rw [h] at hp; exact hp
theorem put_set {tg : List Tg} {i : Nat} {W : World} {p : Nat → Bool} (h : tg[i]? = some (.set p)) : postL tg i (.agg #[.int .u64 (wd p 0 : Int), .int .u64 (wd p 1 : Int), .int .u64 (wd p 2 : Int), .int .u64 (wd p 3 : Int)]) W := by
  unfold postL; rw [h]; rfl
theorem put_sl {tg : List Tg} {i : Nat} {v : Value} {W : World} {ps : List (Nat → Bool)} (h : tg[i]? = some (.sl ps)) (hp : RdS W v ps) : postL tg i v W := by
  unfold postL; rw [h]; exact hp
theorem put_one {tg : List Tg} {i : Nat} {x : Value} {W : World} (h : tg[i]? = some (.one x)) : postL tg i x W := by
  unfold postL; rw [h]; rfl

def AllS (p : Nat → Oper → Prop) : Nat → List Oper → Prop
  | _, [] => True
  | k, o :: l => p k o ∧ AllS p (k + 1) l
theorem AllS.get {p : Nat → Oper → Prop} : ∀ (l : List Oper) (k : Nat), AllS p k l → ∀ j o, l[j]? = some o → p (k + j) o
  | [], _, _, _, _, h => by cases h
  | o' :: l, k, hp, 0, o, h => by
    simp only [List.getElem?_cons_zero, Option.some.injEq] at h
    subst h
    exact hp.1
  | o' :: l, k, hp, j + 1, o, h => by
    have := AllS.get l (k + 1) hp.2 j o (by simpa using h)
    rw [show k + (j + 1) = k + 1 + j by omega]
    exact this
def spliceT (l : List Value) (k n : Nat) (u : Nat → Value) : Array Value := (l.take k ++ ((List.range n).map u ++ l.drop (k + n))).toArray
theorem splice_self (l : List Value) (k n : Nat) (h : k + n ≤ l.length) : l.toArray = spliceT l k n (fun i => l.getD (k + i) undef) := by
  unfold spliceT
  congr 1
  refine List.ext_getElem? fun j => ?_
  rcases Nat.lt_or_ge j k with h1 | h1
  · rw [List.getElem?_append_left (by rw [List.length_take]; omega), List.getElem?_take, if_pos h1]
  · rw [List.getElem?_append_right (by rw [List.length_take]; omega), List.length_take, Nat.min_eq_left (by omega)]
    rcases Nat.lt_or_ge (j - k) n with h2 | h2
    · rw [List.getElem?_append_left (by simpa using h2), List.getElem?_map, List.getElem?_range h2]
      simp only [Option.map_some]
      rw [show k + (j - k) = j by omega, List.getD_eq_getElem?_getD, List.getElem?_eq_getElem (show j < l.length by omega)]
      rfl
    · rw [List.getElem?_append_right (by simpa using h2), List.getElem?_drop]
      congr 1
      simp
      omega
theorem mem_of {l : List Nat} {j : Nat} (h : l.contains j = true) : j ∈ l := by simpa using h

theorem wp_region_tags {P : Program} {Q : Exit → Act → World → Prop} {id : Nat} {l : List Oper} {tm : List Value} {ds : List Deferred} {w : World} (k n : Nat) (tg : List Tg) (hm : P.follows .mixedOrders = true) (hn0 : decide (n ≤ l.toArray.size) = true) (hk : decide (k + n ≤ tm.length) = true)
    (hback : (List.range l.toArray.size).all (fun i => (depsL .any l.toArray i).all (decide <| · < i)) = true)
    (hlast : (List.range l.toArray.size).all (fun i => decide (i < n) || (decide (i = n) && decide (l.toArray.size = n + 1) && (List.range n).all fun j => (depsL .any l.toArray n).contains j)) = true)
    (h : ∀ T : (Nat → Value) → Act, (∀ u, T u = { tmps := spliceT tm k n u, defers := ds }) →
      AllS (fun i o => ∀ u W, Ext w W → (∀ j ∈ depsL .any l.toArray i, postL tg j (u j) W) → wpList P l.toArray (stepQ fun a' W' => Ext W W' ∧ ∃ v, a' = T (updN u i v) ∧ postL tg i v W') [o] (T u) W) 0 (l.take n) ∧
      ∀ u W, Ext w W → (∀ j, j < n → postL tg j (u j) W) → wpList P l.toArray Q (l.drop n) (T u) W) : (Code.region id l.toArray true).wp P Q { tmps := tm.toArray, defers := ds } w := by
  obtain ⟨h1, h2⟩ := h (fun u => { tmps := spliceT tm k n u, defers := ds }) (fun _ => rfl)
  refine wp_region_inv n (fun u => { tmps := spliceT tm k n u, defers := ds }) (postL tg) (fun i => tm.getD (k + i) undef) (by rw [splice_self tm k n (of_decide_eq_true hk)]) hm (of_decide_eq_true hn0) (postL_ext tg) hback hlast (fun i o hi ho => ?_) (fun u W hx hp => h2 u W hx hp)
  have := AllS.get _ 0 h1 i o (by rw [List.getElem?_take, if_pos hi]; simpa using ho)
  rw [Nat.zero_add] at this
  exact this

/-- A row of two sets, just made. -/
theorem rds_two (W : World) (p q : Nat → Bool) (t : TypeId) (c : Nat) : RdS (W.alloc (.cells #[.int .u64 (wd p 0 : Int), .int .u64 (wd p 1 : Int), .int .u64 (wd p 2 : Int), .int .u64 (wd p 3 : Int), .int .u64 (wd q 0 : Int), .int .u64 (wd q 1 : Int), .int .u64 (wd q 2 : Int), .int .u64 (wd q 3 : Int)] t)) (.slice (some ⟨W.heap.size, 0, none⟩) 2 c) [p, q] := by
  have hB := Blk.new W t #[.int .u64 (wd p 0 : Int), .int .u64 (wd p 1 : Int), .int .u64 (wd p 2 : Int), .int .u64 (wd p 3 : Int), .int .u64 (wd q 0 : Int), .int .u64 (wd q 1 : Int), .int .u64 (wd q 2 : Int), .int .u64 (wd q 3 : Int)]
  refine ⟨_, _, rfl, fun j hj => ⟨W.heap.size, 0, rfl, fun i hi => ?_⟩⟩
  rw [hB.cell]
  have hj' : j = 0 ∨ j = 1 := by simp at hj; omega
  have hi' : i = 0 ∨ i = 1 ∨ i = 2 ∨ i = 3 := by omega
  rcases hj' with rfl | rfl <;> rcases hi' with rfl | rfl | rfl | rfl <;> rfl
theorem rds_three (W : World) (p q r : Nat → Bool) (t : TypeId) (c : Nat) : RdS (W.alloc (.cells #[.int .u64 (wd p 0 : Int), .int .u64 (wd p 1 : Int), .int .u64 (wd p 2 : Int), .int .u64 (wd p 3 : Int), .int .u64 (wd q 0 : Int), .int .u64 (wd q 1 : Int), .int .u64 (wd q 2 : Int), .int .u64 (wd q 3 : Int), .int .u64 (wd r 0 : Int), .int .u64 (wd r 1 : Int), .int .u64 (wd r 2 : Int), .int .u64 (wd r 3 : Int)] t)) (.slice (some ⟨W.heap.size, 0, none⟩) 3 c) [p, q, r] := by
  have hB := Blk.new W t #[.int .u64 (wd p 0 : Int), .int .u64 (wd p 1 : Int), .int .u64 (wd p 2 : Int), .int .u64 (wd p 3 : Int), .int .u64 (wd q 0 : Int), .int .u64 (wd q 1 : Int), .int .u64 (wd q 2 : Int), .int .u64 (wd q 3 : Int), .int .u64 (wd r 0 : Int), .int .u64 (wd r 1 : Int), .int .u64 (wd r 2 : Int), .int .u64 (wd r 3 : Int)]
  refine ⟨_, _, rfl, fun j hj => ⟨W.heap.size, 0, rfl, fun i hi => ?_⟩⟩
  rw [hB.cell]
  have hj' : j = 0 ∨ j = 1 ∨ j = 2 := by simp at hj; omega
  have hi' : i = 0 ∨ i = 1 ∨ i = 2 ∨ i = 3 := by omega
  rcases hj' with rfl | rfl | rfl <;> rcases hi' with rfl | rfl | rfl | rfl <;> rfl

end Go.Proofs.YtkcgbdoplhgbmaaDoor

namespace Go.Proofs.YtkcgbdoplhgbmaaDoor
open Go Go.RowKit

section
variable {P : Program} {ops : Array Oper} {md : Region.Mode} {Q : Exit → Act → World → Prop} {w0 : World}

def headA (m n : Nat) : Array Bool := (List.replicate n true ++ List.replicate (m - n) false).toArray
theorem wpAny_invz (n : Nat) (hn : n < ops.size) (T : (Nat → Value) → Act) (Post : Nat → Value → World → Prop) (stable : ∀ i v W W', Ext W W' → Post i v W → Post i v W')
    (hback : (List.range ops.size).all (fun i => (depsL md ops i).all (decide <| · < i)) = true)
    (hs : Region.sinkB md ops n = true) (hc : Region.chainB md ops n = true) (hq : Region.seqB md ops (ops.size - n) n (headA ops.size n) = true)
    (step : ∀ i o, i < n → ops[i]? = some o → ∀ u W, Ext w0 W → (∀ j ∈ depsL md ops i, Post j (u j) W) → wpList P ops (stepQ fun a' W' => Ext W W' ∧ ∃ v, a' = T (updN u i v) ∧ Post i v W') [o] (T u) W)
    (done : ∀ u W, Ext w0 W → (∀ j, j < n → Post j (u j) W) → wpList P ops Q (ops.toList.drop n) (T u) W) :
    ∀ (f : Nat) (listed : Array Bool) (u : Nat → Value) (W : World), Ext w0 W → HeadInv md ops n listed → cntF listed.toList = f →
      (∀ j, j < n → listed.getD j false = true → Post j (u j) W) → wpAny P md ops Q f listed (T u) W := fun f => by
  induction f with
  | zero =>
    intro listed u W hx inv hcn hp
    exact (cntF_zero _ hcn n (getD_false_iff.1 (inv.tail n (Nat.le_refl _) hn))).elim
  | succ f ih =>
    intro listed u W hx inv hcn hp
    by_cases hall : ∀ j, j < n → listed.getD j true = true
    · have he : listed = headA ops.size n := by
        apply Array.ext
        · simp [headA, inv.size]; omega
        · intro i h1 h2
          have h3 : i < ops.size := by rw [← inv.size]; exact h1
          rcases Nat.lt_or_ge i n with h | h
          · have := hall i h
            rw [Array.getD_eq_getD_getElem?, Array.getElem?_eq_getElem h1] at this
            simp only [Option.getD_some] at this
            rw [this]
            simp [headA, h]
          · have := inv.tail i h h3
            rw [Array.getD_eq_getD_getElem?, Array.getElem?_eq_getElem h1] at this
            simp only [Option.getD_some] at this
            rw [this]
            simp [headA, List.getElem_append_right, h]
      have hlen : (ops.toList.drop n).length = ops.size - n := by simp
      have hf : f + 1 = ops.size - n := by
        rw [← hcn, he]
        unfold headA cntF
        simp
      have := wpAny_of_seq (md := md) (Q' := Q) (ops.toList.drop n) n listed (T u) W (fun j => by simp [List.getElem?_drop]) (by rw [hlen, he]; exact hq) (done u W hx (fun j hj => hp j hj (by
        have := hall j hj
        have h3 : j < listed.size := by rw [inv.size]; omega
        rw [Array.getD_eq_getD_getElem?, Array.getElem?_eq_getElem h3] at this ⊢
        exact this)))
      rw [hlen, ← hf] at this
      exact this
    · obtain ⟨i0, hi0⟩ := Classical.not_forall.1 hall
      obtain ⟨hi0n, hi0u⟩ := Classical.not_imp.1 hi0
      have hun0 : listed.getD i0 true = false := by simpa using hi0u
      refine ⟨fun hr => absurd hr (ready_some inv.size hback i0 hun0), fun i hi => ?_⟩
      have hin : i < n := by
        rcases Nat.lt_or_ge i n with h | h
        · exact h
        · exact absurd hi (tail_waits hs hc hn inv _ i0 rfl hi0n hun0 i h)
      obtain ⟨hun, o, ho, hdeps⟩ := mem_ready.1 hi
      have hdl : ∀ j ∈ depsL md ops i, listed.getD j false = true := fun j hj => by
        unfold depsL at hj
        rw [ho] at hj
        obtain ⟨e, he, rfl⟩ := List.mem_map.1 hj
        obtain ⟨he1, he2⟩ := List.mem_filter.1 he
        exact hdeps e (by simpa using he1) he2
      have hdlt : ∀ j ∈ depsL md ops i, j < i := fun j hj => by
        have := (List.all_eq_true.1 hback) i (List.mem_range.2 (by omega))
        simpa using (List.all_eq_true.1 this) _ hj
      refine wpOp_of_list ho ?_ (step i o hin ho u W hx (fun j hj => hp j (by have := hdlt j hj; omega) (hdl j hj)))
      rintro a' W' ⟨hx', v, rfl, hv⟩
      refine ih (listed.setIfInBounds i true) (updN u i v) W' (hx.trans hx') (inv.set hi hin) ?_ (fun j hj hl => ?_)
      · rw [Array.toList_setIfInBounds]
        have := cntF_set listed.toList i (getD_false_iff.1 hun)
        omega
      · unfold updN
        by_cases hji : j = i
        · rw [if_pos hji, hji]; exact hv
        · rw [if_neg hji]
          rw [getD_set_ne false (fun e => hji e.symm)] at hl
          exact stable j _ W W' hx' (hp j hj hl)
end

theorem wp_region_tagz {P : Program} {Q : Exit → Act → World → Prop} {id : Nat} {l : List Oper} {tm : List Value} {ds : List Deferred} {w : World} (k n : Nat) (tg : List Tg) (hm : P.follows .mixedOrders = true) (hn0 : decide (n < l.toArray.size) = true) (hk : decide (k + n ≤ tm.length) = true)
    (hback : (List.range l.toArray.size).all (fun i => (depsL .any l.toArray i).all (decide <| · < i)) = true)
    (hs : Region.sinkB .any l.toArray n = true) (hc : Region.chainB .any l.toArray n = true) (hq : Region.seqB .any l.toArray (l.toArray.size - n) n (headA l.toArray.size n) = true)
    (h : ∀ T : (Nat → Value) → Act, (∀ u, T u = { tmps := spliceT tm k n u, defers := ds }) →
      AllS (fun i o => ∀ u W, Ext w W → (∀ j ∈ depsL .any l.toArray i, postL tg j (u j) W) → wpList P l.toArray (stepQ fun a' W' => Ext W W' ∧ ∃ v, a' = T (updN u i v) ∧ postL tg i v W') [o] (T u) W) 0 (l.take n) ∧
      ∀ u W, Ext w W → (∀ j, j < n → postL tg j (u j) W) → wpList P l.toArray Q (l.drop n) (T u) W) : (Code.region id l.toArray true).wp P Q { tmps := tm.toArray, defers := ds } w := by
  obtain ⟨h1, h2⟩ := h (fun u => { tmps := spliceT tm k n u, defers := ds }) (fun _ => rfl)
  refine wp_region_any hm ?_
  rw [splice_self tm k n (of_decide_eq_true hk)]
  refine wpAny_invz (w0 := w) n (of_decide_eq_true hn0) (fun u => { tmps := spliceT tm k n u, defers := ds }) (postL tg) (postL_ext tg) hback hs hc hq (fun i o hi ho => ?_) (fun u W hx hp => h2 u W hx hp) l.toArray.size (Array.replicate l.toArray.size false) (fun i => tm.getD (k + i) undef) _ (Ext.refl w).drew ⟨by simp, fun j oj _ hl => (by rw [getD_replicate_false] at hl; cases hl), fun t _ ht => getD_in (by simpa using ht) (getD_replicate_false _ _)⟩ ?_ (fun j _ hl => ?_)
  · have := AllS.get _ 0 h1 i o (by rw [List.getElem?_take, if_pos hi]; simpa using ho)
    rw [Nat.zero_add] at this
    exact this
  · rw [Array.toList_replicate]
    unfold cntF
    rw [List.filter_replicate]
    simp
  · rw [getD_replicate_false] at hl
    cases hl

/-- What each temporary holds, as a list of conditions that last along growth. -/
def postP (tg : List (Value → World → Prop)) (i : Nat) (v : Value) (W : World) : Prop := match tg[i]? with | some p => p v W | none => True
def Lasts (tg : List (Value → World → Prop)) : Prop := ∀ p ∈ tg, ∀ v W W', Ext W W' → p v W → p v W'
theorem Lasts.nil : Lasts [] := fun _ h => by cases h
theorem Lasts.cons {p : Value → World → Prop} {tg : List (Value → World → Prop)} (hp : ∀ v W W', Ext W W' → p v W → p v W') (h : Lasts tg) : Lasts (p :: tg) := fun q hq => by
  rcases List.mem_cons.1 hq with rfl | hq
  · exact hp
  · exact h q hq
theorem Lasts.is {x : Value} {tg : List (Value → World → Prop)} (h : Lasts tg) : Lasts ((fun v _ => v = x) :: tg) := h.cons fun _ _ _ _ h => h
theorem wp_region_predz {P : Program} {Q : Exit → Act → World → Prop} {id : Nat} {l : List Oper} {tm : List Value} {ds : List Deferred} {w : World} (k n : Nat) (tg : List (Value → World → Prop)) (hst : Lasts tg) (hm : P.follows .mixedOrders = true) (hn0 : decide (n < l.toArray.size) = true) (hk : decide (k + n ≤ tm.length) = true)
    (hback : (List.range l.toArray.size).all (fun i => (depsL .any l.toArray i).all (decide <| · < i)) = true)
    (hs : Region.sinkB .any l.toArray n = true) (hc : Region.chainB .any l.toArray n = true) (hq : Region.seqB .any l.toArray (l.toArray.size - n) n (headA l.toArray.size n) = true)
    (h : ∀ T : (Nat → Value) → Act, (∀ u, T u = { tmps := spliceT tm k n u, defers := ds }) →
      AllS (fun i o => ∀ u W, Ext w W → (∀ j ∈ depsL .any l.toArray i, postP tg j (u j) W) → wpList P l.toArray (stepQ fun a' W' => Ext W W' ∧ ∃ v, a' = T (updN u i v) ∧ postP tg i v W') [o] (T u) W) 0 (l.take n) ∧
      ∀ u W, Ext w W → (∀ j, j < n → postP tg j (u j) W) → wpList P l.toArray Q (l.drop n) (T u) W) : (Code.region id l.toArray true).wp P Q { tmps := tm.toArray, defers := ds } w := by
  obtain ⟨h1, h2⟩ := h (fun u => { tmps := spliceT tm k n u, defers := ds }) (fun _ => rfl)
  refine wp_region_any hm ?_
  rw [splice_self tm k n (of_decide_eq_true hk)]
  refine wpAny_invz (w0 := w) n (of_decide_eq_true hn0) (fun u => { tmps := spliceT tm k n u, defers := ds }) (postP tg) (fun i v W W' hx hp => ?_) hback hs hc hq (fun i o hi ho => ?_) (fun u W hx hp => h2 u W hx hp) l.toArray.size (Array.replicate l.toArray.size false) (fun i => tm.getD (k + i) undef) _ (Ext.refl w).drew ⟨by simp, fun j oj _ hl => (by rw [getD_replicate_false] at hl; cases hl), fun t _ ht => getD_in (by simpa using ht) (getD_replicate_false _ _)⟩ ?_ (fun j _ hl => ?_)
  · unfold postP at *
    cases e : tg[i]? with
    | none => trivial
    | some q =>
      rw [e] at hp
      exact hst q (List.mem_of_getElem? e) v W W' hx hp
  · have := AllS.get _ 0 h1 i o (by rw [List.getElem?_take, if_pos hi]; simpa using ho)
    rw [Nat.zero_add] at this
    exact this
  · rw [Array.toList_replicate]
    unfold cntF
    rw [List.filter_replicate]
    simp
  · rw [getD_replicate_false] at hl
    cases hl

end Go.Proofs.YtkcgbdoplhgbmaaDoor
