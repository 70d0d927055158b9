/- The law for drawn regions over sets: each operation's temporary holds a set, a row of sets or a known value. No condition. -/
import Derived.Test.YtfgocamajfipmaaInv
import Derived.Test.YtfgocamajfipmaaSetB
namespace Go.Proofs.Ytfgocamajfipmaa
open Go Go.RowKit

theorem stepQ_mk {K : Act → World → Prop} {a : Act} {w : World} (h : K a w) : stepQ K .normal a w := h
inductive Tg where
  | set (p : Nat → Bool)
  | sl (ps : List (Nat → Bool))
  | one (v : Value)
def Tg.ok : Tg → Value → World → Prop
  | .set p, v, _ => v = .agg #[.int .u64 (wd p 0 : Int), .int .u64 (wd p 1 : Int), .int .u64 (wd p 2 : Int), .int .u64 (wd p 3 : Int)]
  | .sl ps, v, W => RdS W v ps
  | .one x, v, _ => v = x
def postL (tg : List Tg) (i : Nat) (v : Value) (W : World) : Prop := match tg[i]? with | some t => t.ok v W | none => True
theorem postL_ext (tg : List Tg) (i : Nat) (v : Value) (W W' : World) (hx : Ext W W') (h : postL tg i v W) : postL tg i v W' := by
  unfold postL at *
  cases e : tg[i]? with
  | none => trivial
  | some t =>
    rw [e] at h
    cases t with
    | set p => exact h
    | sl ps => exact RdS.ext h hx
    | one x => exact h

theorem get_set {tg : List Tg} {i : Nat} {v : Value} {W : World} {p : Nat → Bool} (h : tg[i]? = some (.set p)) (hp : postL tg i v W) : v = .agg #[.int .u64 (wd p 0 : Int), .int .u64 (wd p 1 : Int), .int .u64 (wd p 2 : Int), .int .u64 (wd p 3 : Int)] := by
  unfold postL at hp; rw [h] at hp; exact hp
theorem get_sl {tg : List Tg} {i : Nat} {v : Value} {W : World} {ps : List (Nat → Bool)} (h : tg[i]? = some (.sl ps)) (hp : postL tg i v W) : RdS W v ps := by
  unfold postL at hp; rw [h] at hp; exact hp
theorem get_one {tg : List Tg} {i : Nat} {v x : Value} {W : World} (h : tg[i]? = some (.one x)) (hp : postL tg i v W) : v = x := by
  unfold postL at hp; rw [h] at hp; exact hp
theorem put_set {tg : List Tg} {i : Nat} {W : World} {p : Nat → Bool} (h : tg[i]? = some (.set p)) : postL tg i (.agg #[.int .u64 (wd p 0 : Int), .int .u64 (wd p 1 : Int), .int .u64 (wd p 2 : Int), .int .u64 (wd p 3 : Int)]) W := by
  unfold postL; rw [h]; rfl
theorem put_sl {tg : List Tg} {i : Nat} {v : Value} {W : World} {ps : List (Nat → Bool)} (h : tg[i]? = some (.sl ps)) (hp : RdS W v ps) : postL tg i v W := by
  unfold postL; rw [h]; exact hp
theorem put_one {tg : List Tg} {i : Nat} {x : Value} {W : World} (h : tg[i]? = some (.one x)) : postL tg i x W := by
  unfold postL; rw [h]; rfl

def AllS (p : Nat → Oper → Prop) : Nat → List Oper → Prop
  | _, [] => True
  | k, o :: l => p k o ∧ AllS p (k + 1) l
theorem AllS.get {p : Nat → Oper → Prop} : ∀ (l : List Oper) (k : Nat), AllS p k l → ∀ j o, l[j]? = some o → p (k + j) o
  | [], _, _, _, _, h => by cases h
  | o' :: l, k, hp, 0, o, h => by
    simp only [List.getElem?_cons_zero, Option.some.injEq] at h
    subst h
    exact hp.1
  | o' :: l, k, hp, j + 1, o, h => by
    have := AllS.get l (k + 1) hp.2 j o (by simpa using h)
    rw [show k + (j + 1) = k + 1 + j by omega]
    exact this
def spliceT (l : List Value) (k n : Nat) (u : Nat → Value) : Array Value := (l.take k ++ ((List.range n).map u ++ l.drop (k + n))).toArray
theorem splice_self (l : List Value) (k n : Nat) (h : k + n ≤ l.length) : l.toArray = spliceT l k n (fun i => l.getD (k + i) undef) := by
  unfold spliceT
  congr 1
  refine List.ext_getElem? fun j => ?_
  rcases Nat.lt_or_ge j k with h1 | h1
  · rw [List.getElem?_append_left (by rw [List.length_take]; omega), List.getElem?_take, if_pos h1]
  · rw [List.getElem?_append_right (by rw [List.length_take]; omega), List.length_take, Nat.min_eq_left (by omega)]
    rcases Nat.lt_or_ge (j - k) n with h2 | h2
    · rw [List.getElem?_append_left (by simpa using h2), List.getElem?_map, List.getElem?_range h2]
      simp only [Option.map_some]
      rw [show k + (j - k) = j by omega, List.getD_eq_getElem?_getD, List.getElem?_eq_getElem (show j < l.length by omega)]
      rfl
    · rw [List.getElem?_append_right (by simpa using h2), List.getElem?_drop]
      congr 1
      simp
      omega
theorem mem_of {l : List Nat} {j : Nat} (h : l.contains j = true) : j ∈ l := by simpa using h

theorem wp_region_tags {P : Program} {Q : Exit → Act → World → Prop} {id : Nat} {l : List Oper} {tm : List Value} {ds : List Deferred} {w : World} (k n : Nat) (tg : List Tg) (hm : P.follows .mixedOrders = true) (hn0 : decide (n ≤ l.toArray.size) = true) (hk : decide (k + n ≤ tm.length) = true)
    (hback : (List.range l.toArray.size).all (fun i => (depsL .any l.toArray i).all (decide <| · < i)) = true)
    (hlast : (List.range l.toArray.size).all (fun i => decide (i < n) || (decide (i = n) && decide (l.toArray.size = n + 1) && (List.range n).all fun j => (depsL .any l.toArray n).contains j)) = true)
    (h : ∀ T : (Nat → Value) → Act, (∀ u, T u = { tmps := spliceT tm k n u, defers := ds }) →
      AllS (fun i o => ∀ u W, Ext w W → (∀ j ∈ depsL .any l.toArray i, postL tg j (u j) W) → wpList P l.toArray (stepQ fun a' W' => Ext W W' ∧ ∃ v, a' = T (updN u i v) ∧ postL tg i v W') [o] (T u) W) 0 (l.take n) ∧
      ∀ u W, Ext w W → (∀ j, j < n → postL tg j (u j) W) → wpList P l.toArray Q (l.drop n) (T u) W) : (Code.region id l.toArray true).wp P Q { tmps := tm.toArray, defers := ds } w := by
  obtain ⟨h1, h2⟩ := h (fun u => { tmps := spliceT tm k n u, defers := ds }) (fun _ => rfl)
  refine wp_region_inv n (fun u => { tmps := spliceT tm k n u, defers := ds }) (postL tg) (fun i => tm.getD (k + i) undef) (by rw [splice_self tm k n (of_decide_eq_true hk)]) hm (of_decide_eq_true hn0) (postL_ext tg) hback hlast (fun i o hi ho => ?_) (fun u W hx hp => h2 u W hx hp)
  have := AllS.get _ 0 h1 i o (by rw [List.getElem?_take, if_pos hi]; simpa using ho)
  rw [Nat.zero_add] at this
  exact this

/-- A row of two sets, just made. -/
theorem rds_two (W : World) (p q : Nat → Bool) (t : TypeId) (c : Nat) : RdS (W.alloc (.cells #[.int .u64 (wd p 0 : Int), .int .u64 (wd p 1 : Int), .int .u64 (wd p 2 : Int), .int .u64 (wd p 3 : Int), .int .u64 (wd q 0 : Int), .int .u64 (wd q 1 : Int), .int .u64 (wd q 2 : Int), .int .u64 (wd q 3 : Int)] t)) (.slice (some ⟨W.heap.size, 0, none⟩) 2 c) [p, q] := by
  have hB := Blk.new W t #[.int .u64 (wd p 0 : Int), .int .u64 (wd p 1 : Int), .int .u64 (wd p 2 : Int), .int .u64 (wd p 3 : Int), .int .u64 (wd q 0 : Int), .int .u64 (wd q 1 : Int), .int .u64 (wd q 2 : Int), .int .u64 (wd q 3 : Int)]
  refine ⟨_, _, rfl, fun j hj => ⟨W.heap.size, 0, rfl, fun i hi => ?_⟩⟩
  rw [hB.cell]
  have hj' : j = 0 ∨ j = 1 := by simp at hj; omega
  have hi' : i = 0 ∨ i = 1 ∨ i = 2 ∨ i = 3 := by omega
  rcases hj' with rfl | rfl <;> rcases hi' with rfl | rfl | rfl | rfl <;> rfl
theorem rds_three (W : World) (p q r : Nat → Bool) (t : TypeId) (c : Nat) : RdS (W.alloc (.cells #[.int .u64 (wd p 0 : Int), .int .u64 (wd p 1 : Int), .int .u64 (wd p 2 : Int), .int .u64 (wd p 3 : Int), .int .u64 (wd q 0 : Int), .int .u64 (wd q 1 : Int), .int .u64 (wd q 2 : Int), .int .u64 (wd q 3 : Int), .int .u64 (wd r 0 : Int), .int .u64 (wd r 1 : Int), .int .u64 (wd r 2 : Int), .int .u64 (wd r 3 : Int)] t)) (.slice (some ⟨W.heap.size, 0, none⟩) 3 c) [p, q, r] := by
  have hB := Blk.new W t #[.int .u64 (wd p 0 : Int), .int .u64 (wd p 1 : Int), .int .u64 (wd p 2 : Int), .int .u64 (wd p 3 : Int), .int .u64 (wd q 0 : Int), .int .u64 (wd q 1 : Int), .int .u64 (wd q 2 : Int), .int .u64 (wd q 3 : Int), .int .u64 (wd r 0 : Int), .int .u64 (wd r 1 : Int), .int .u64 (wd r 2 : Int), .int .u64 (wd r 3 : Int)]
  refine ⟨_, _, rfl, fun j hj => ⟨W.heap.size, 0, rfl, fun i hi => ?_⟩⟩
  rw [hB.cell]
  have hj' : j = 0 ∨ j = 1 ∨ j = 2 := by simp at hj; omega
  have hi' : i = 0 ∨ i = 1 ∨ i = 2 ∨ i = 3 := by omega
  rcases hj' with rfl | rfl | rfl <;> rcases hi' with rfl | rfl | rfl | rfl <;> rfl

end Go.Proofs.Ytfgocamajfipmaa
