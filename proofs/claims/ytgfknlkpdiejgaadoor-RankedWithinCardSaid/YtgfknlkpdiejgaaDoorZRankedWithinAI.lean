/- A region that draws its order: each operation leaves a value of which something is known that lasts as long as the world only grows; the last operation may write. No condition. The law for drawn regions over sets: each operation's temporary holds a set, a row of sets or a known value. No condition. As InvT's law, and behind the first n operations several more, one behind the other, that may write. No condition. engine.lead as a contract: the places that a right tree leads to, forwards or backwards. Conditions: the engine, the scene, the tree, the words and the library's table lie in memory. -/
import Derived.Test.YtgfknlkpdiejgaaDoorLib
import Derived.StillTailTactics
import Derived.Test.YtgfknlkpdiejgaaDoorSetB
import Derived.Test.YtgfknlkpdiejgaaDoorZRankedWithinAG
import Derived.Test.YtgfknlkpdiejgaaDoorZRankedWithinAH
import Derived.Test.YtgfknlkpdiejgaaDoorZRankedWithinAD
namespace Go.Proofs.YtgfknlkpdiejgaaDoor
open Go Go.RowKit

section
variable {P : Program} {ops : Array Oper} {md : Region.Mode} {Q : Exit → Act → World → Prop} {w0 : World}

def stepQ (K : Act → World → Prop) : Exit → Act → World → Prop
  | .normal, a, w => K a w
  | _, _, _ => False
def updN (u : Nat → Value) (i : Nat) (v : Value) : Nat → Value := fun j => if j = i then v else u j
def depsL (md : Region.Mode) (ops : Array Oper) (i : Nat) : List Nat := match ops[i]? with | none => [] | some o => (o.after.toList.filter (Region.binds md ·)).map (·.on)

theorem wp_stepQ {o : Oper} {a : Act} {w : World} {K K' : Act → World → Prop} (hK : ∀ a w, K a w → K' a w) (h : o.wp P a w (wpList P ops (stepQ K) []) (stepQ K)) : o.wp P a w K' Q := by
  unfold Oper.wp at *
  generalize (execOp a.eval o).run P w = r at *
  cases r with
  | ok n w' =>
    cases n <;> simp only [Oper.upon] at h ⊢ <;>
      first
        | exact hK _ _ h
        | exact Rows.mono h fun v w'' he => hK _ _ he
        | (refine Calls.mono h fun e w'' he => ?_
           cases e with
           | returned v => exact hK _ _ he
           | panicked c => exact he.elim
           | outgrown => obtain ⟨_, _, he⟩ := he; exact he.elim)
  | halt x w' =>
    cases x <;> simp only [Oper.upon] at h ⊢
    all_goals exact h.elim
theorem wpOp_of_list {i : Nat} {o : Oper} {a : Act} {w : World} {K K' : Act → World → Prop} (ho : ops[i]? = some o) (hK : ∀ a w, K a w → K' a w) (h : wpList P ops (stepQ K) [o] a w) : wpOp P ops Q i K' a w := by
  unfold wpOp
  simp only [ho]
  unfold wpList at h
  by_cases hw : Region.wanted o (yielded ops a.tmps) = true
  · rw [if_pos hw] at h ⊢
    rcases h with h | ⟨_, _, _, h⟩
    · exact .inl (wp_stepQ hK h)
    · exact h.elim
  · rw [if_neg hw] at h ⊢
    exact hK _ _ h
theorem wpOp_of_last {i : Nat} {o : Oper} {a : Act} {w : World} {K' : Act → World → Prop} (ho : ops[i]? = some o) (hK : ∀ a w, Q .normal a w → K' a w) (h : wpList P ops Q [o] a w) : wpOp P ops Q i K' a w := by
  unfold wpOp
  simp only [ho]
  unfold wpList at h
  by_cases hw : Region.wanted o (yielded ops a.tmps) = true
  · rw [if_pos hw] at h ⊢
    exact h.imp (Oper.wp_mono hK) id
  · rw [if_neg hw] at h ⊢
    exact hK _ _ h

def cntF (l : List Bool) : Nat := (l.filter (fun b => !b)).length
theorem cntF_set : ∀ (l : List Bool) (i : Nat), l[i]? = some false → cntF (l.set i true) + 1 = cntF l
  | [], i, h => by cases h
  | b :: l, 0, h => by
    simp only [List.getElem?_cons_zero, Option.some.injEq] at h
    subst h
    simp [cntF]
  | b :: l, i + 1, h => by
    have ih := cntF_set l i (by simpa using h)
    cases b <;> simp [cntF] at ih ⊢ <;> omega
theorem cntF_pos : ∀ (l : List Bool), cntF l ≠ 0 → ∃ i : Nat, l[i]? = some false
  | [], h => absurd rfl h
  | false :: l, _ => ⟨0, rfl⟩
  | true :: l, h => by
    obtain ⟨i, hi⟩ := cntF_pos l (fun h0 => h (by simpa [cntF] using h0))
    exact ⟨i + 1, hi⟩
theorem cntF_zero : ∀ (l : List Bool), cntF l = 0 → ∀ i : Nat, l[i]? = some false → False
  | [], _, _, h => by cases h
  | false :: l, h, _, _ => by simp [cntF] at h
  | true :: l, h, 0, h2 => by simp at h2
  | true :: l, h, i + 1, h2 => cntF_zero l (by simpa [cntF] using h) i (by simpa using h2)
theorem getD_false_iff {listed : Array Bool} {i : Nat} : listed.getD i true = false ↔ listed.toList[i]? = some false := by
  rw [Array.getD_eq_getD_getElem?, Array.getElem?_toList]
  cases h : listed[i]? with
  | none => simp
  | some b => simp

theorem ready_none {listed : Array Bool} (h : ∀ i, i < ops.size → listed.getD i true = true) : Region.ready md ops listed = [] := by
  refine List.eq_nil_iff_forall_not_mem.2 fun i hi => ?_
  obtain ⟨h1, o, ho, _⟩ := mem_ready.1 hi
  rw [h i (Array.getElem?_eq_some_iff.1 ho).1] at h1
  cases h1
theorem ready_some {listed : Array Bool} (hs : listed.size = ops.size) (hback : (List.range ops.size).all (fun i => (depsL md ops i).all (decide <| · < i)) = true) : ∀ i, listed.getD i true = false → Region.ready md ops listed ≠ [] := fun i => by
  induction i using Nat.strongRecOn with
  | ind i ih =>
    intro h hr
    have hi : i < ops.size := by
      rw [← hs]
      have := (List.getElem?_eq_some_iff.1 (getD_false_iff.1 h)).1
      simpa using this
    have hnot : i ∉ Region.ready md ops listed := by rw [hr]; simp
    apply hnot
    refine mem_ready.2 ⟨h, ops[i], Array.getElem?_eq_getElem hi, fun e he hb => ?_⟩
    cases hl : listed.getD e.on false with
    | true => rfl
    | false =>
      exfalso
      have hd : e.on ∈ depsL md ops i := by
        unfold depsL
        rw [Array.getElem?_eq_getElem hi]
        exact List.mem_map.2 ⟨e, List.mem_filter.2 ⟨by simpa using he, hb⟩, rfl⟩
      have hlt : e.on < i := by
        have := (List.all_eq_true.1 hback) i (List.mem_range.2 hi)
        simpa using (List.all_eq_true.1 this) _ hd
      exact ih e.on hlt (getD_in (by omega) hl) hr

theorem wpAny_inv (n : Nat) (hn0 : n ≤ ops.size) (T : (Nat → Value) → Act) (Post : Nat → Value → World → Prop) (stable : ∀ i v W W', Ext W W' → Post i v W → Post i v W')
    (hback : (List.range ops.size).all (fun i => (depsL md ops i).all (decide <| · < i)) = true)
    (hlast : (List.range ops.size).all (fun i => decide (i < n) || (decide (i = n) && decide (ops.size = n + 1) && (List.range n).all fun j => (depsL md ops n).contains j)) = true)
    (step : ∀ i o, i < n → ops[i]? = some o → ∀ u W, Ext w0 W → (∀ j ∈ depsL md ops i, Post j (u j) W) → wpList P ops (stepQ fun a' W' => Ext W W' ∧ ∃ v, a' = T (updN u i v) ∧ Post i v W') [o] (T u) W)
    (done : ∀ u W, Ext w0 W → (∀ j, j < n → Post j (u j) W) → wpList P ops Q (ops.toList.drop n) (T u) W) :
    ∀ (f : Nat) (listed : Array Bool) (u : Nat → Value) (W : World), Ext w0 W → listed.size = ops.size → cntF listed.toList = f →
      (∀ j, j < n → listed.getD j false = true → Post j (u j) W) → (∀ j, n ≤ j → j < ops.size → listed.getD j true = false) → wpAny P md ops Q f listed (T u) W := fun f => by
  have hone : ∀ i, i < ops.size → i < n ∨ (i = n ∧ ops.size = n + 1 ∧ ∀ j, j < n → j ∈ depsL md ops n) := fun i hi => by
    have := (List.all_eq_true.1 hlast) i (List.mem_range.2 hi)
    simp only [Bool.or_eq_true, decide_eq_true_eq, Bool.and_eq_true, List.all_eq_true, List.mem_range] at this
    rcases this with h | ⟨⟨h1, h2⟩, h3⟩
    · exact .inl h
    · exact .inr ⟨h1, h2, fun j hj => by simpa using h3 j hj⟩
  induction f with
  | zero =>
    intro listed u W hx hs hc hp hn
    have hall : ∀ i, i < ops.size → listed.getD i true = true := fun i hi => by
      cases h : listed.getD i true with
      | true => rfl
      | false => exact (cntF_zero _ hc i (getD_false_iff.1 h)).elim
    have hle : ops.size ≤ n := by
      rcases Nat.lt_or_ge n ops.size with h | h
      · have h1 := hn n (Nat.le_refl _) h
        rw [hall n h] at h1
        cases h1
      · exact h
    refine ⟨ready_none hall, ?_⟩
    have hd := done u W hx (fun j hj => hp j hj (by
      have := hall j (by omega)
      rw [Array.getD_eq_getD_getElem?, Array.getElem?_eq_getElem (by omega)] at this ⊢
      exact this))
    rw [List.drop_of_length_le (by simpa using hle)] at hd
    exact hd
  | succ f ih =>
    intro listed u W hx hs hc hp hn
    refine ⟨fun hr => ?_, fun i hi => ?_⟩
    · obtain ⟨i, h⟩ := cntF_pos _ (by rw [hc]; exact Nat.succ_ne_zero f)
      exact absurd hr (ready_some hs hback i (getD_false_iff.2 h))
    · obtain ⟨hun, o, ho, hdeps⟩ := mem_ready.1 hi
      have hi' := (Array.getElem?_eq_some_iff.1 ho).1
      have hdl : ∀ j ∈ depsL md ops i, listed.getD j false = true := fun j hj => by
        unfold depsL at hj
        rw [ho] at hj
        obtain ⟨e, he, rfl⟩ := List.mem_map.1 hj
        obtain ⟨he1, he2⟩ := List.mem_filter.1 he
        exact hdeps e (by simpa using he1) he2
      have hdlt : ∀ j ∈ depsL md ops i, j < i := fun j hj => by
        have := (List.all_eq_true.1 hback) i (List.mem_range.2 hi')
        simpa using (List.all_eq_true.1 this) _ hj
      rcases hone i hi' with hlt | ⟨rfl, hsz, hall⟩
      · refine wpOp_of_list ho ?_ (step i o hlt ho u W hx (fun j hj => hp j (by have := hdlt j hj; omega) (hdl j hj)))
        rintro a' W' ⟨hx', v, rfl, hv⟩
        refine ih (listed.setIfInBounds i true) (updN u i v) W' (hx.trans hx') (by simpa using hs) ?_ (fun j hj hl => ?_) (fun j hj hj2 => ?_)
        · rw [Array.toList_setIfInBounds]
          have := cntF_set listed.toList i (getD_false_iff.1 hun)
          omega
        · unfold updN
          by_cases hji : j = i
          · rw [if_pos hji, hji]; exact hv
          · rw [if_neg hji]
            rw [getD_set_ne false (fun e => hji e.symm)] at hl
            exact stable j _ W W' hx' (hp j hj hl)
        · rw [getD_set_ne true (by omega)]
          exact hn j hj hj2
      · have hd := done u W hx (fun j hj => hp j hj (hdl j (hall j hj)))
        have hdrop : ops.toList.drop i = [o] := by
          rw [List.drop_eq_getElem_cons (by simpa using hi'), List.drop_of_length_le (by simp; omega)]
          have := (Array.getElem?_eq_some_iff.1 ho).2
          simpa using this
        rw [hdrop] at hd
        refine wpOp_of_last ho (fun a' W' hq => ?_) hd
        have hr : Region.ready md ops (listed.setIfInBounds i true) = [] := ready_none fun j hj => by
          rcases Nat.lt_or_ge j i with h | h
          · rw [getD_set_ne true (by omega)]
            have := hdl j (hall j h)
            rw [Array.getD_eq_getD_getElem?, Array.getElem?_eq_getElem (by omega)] at this ⊢
            exact this
          · have : j = i := by omega
            subst this
            simp [hs, hj]
        cases f with
        | zero => exact ⟨hr, hq⟩
        | succ f => exact ⟨fun _ => hq, by rw [hr]; simp⟩

/-- The beginning. -/
theorem wp_region_inv {id : Nat} {a : Act} {w : World} (n : Nat) (T : (Nat → Value) → Act) (Post : Nat → Value → World → Prop) (u0 : Nat → Value) (hT : a = T u0) (hm : P.follows .mixedOrders = true) (hn0 : n ≤ ops.size) (stable : ∀ i v W W', Ext W W' → Post i v W → Post i v W')
    (hback : (List.range ops.size).all (fun i => (depsL .any ops i).all (decide <| · < i)) = true)
    (hlast : (List.range ops.size).all (fun i => decide (i < n) || (decide (i = n) && decide (ops.size = n + 1) && (List.range n).all fun j => (depsL .any ops n).contains j)) = true)
    (step : ∀ i o, i < n → ops[i]? = some o → ∀ u W, Ext w W → (∀ j ∈ depsL .any ops i, Post j (u j) W) → wpList P ops (stepQ fun a' W' => Ext W W' ∧ ∃ v, a' = T (updN u i v) ∧ Post i v W') [o] (T u) W)
    (done : ∀ u W, Ext w W → (∀ j, j < n → Post j (u j) W) → wpList P ops Q (ops.toList.drop n) (T u) W) : (Code.region id ops true).wp P Q a w := by
  refine wp_region_any hm ?_
  rw [hT]
  refine wpAny_inv (w0 := w) n hn0 T Post stable hback hlast step done ops.size _ u0 _ (Ext.refl w).drew (by simp) ?_ (fun j _ hl => ?_) (fun j _ hj => ?_)
  · rw [Array.toList_replicate]
    unfold cntF
    rw [List.filter_replicate]
    simp
  · rw [getD_replicate_false] at hl
    cases hl
  · exact getD_in (by simpa using hj) (getD_replicate_false _ _)

end
end Go.Proofs.YtgfknlkpdiejgaaDoor

namespace Go.Proofs.YtgfknlkpdiejgaaDoor
open Go Go.RowKit

theorem stepQ_mk {K : Act → World → Prop} {a : Act} {w : World} (h : K a w) : stepQ K .normal a w := h
inductive Tg where
  | set (p : Nat → Bool)
  | sl (ps : List (Nat → Bool))
  | one (v : Value)
def Tg.ok : Tg → Value → World → Prop
  | .set p, v, _ => v = .agg #[.int .u64 (wd p 0 : Int), .int .u64 (wd p 1 : Int), .int .u64 (wd p 2 : Int), .int .u64 (wd p 3 : Int)]
  | .sl ps, v, W => RdS W v ps
  | .one x, v, _ => v = x
def postL (tg : List Tg) (i : Nat) (v : Value) (W : World) : Prop := match tg[i]? with | some t => t.ok v W | none => True
theorem postL_ext (tg : List Tg) (i : Nat) (v : Value) (W W' : World) (hx : Ext W W') (h : postL tg i v W) : postL tg i v W' := by
  unfold postL at *
  cases e : tg[i]? with
  | none => trivial
  | some t =>
    rw [e] at h
    cases t with
    | set p => exact h
    | sl ps => exact RdS.ext h hx
    | one x => exact h

theorem get_set {tg : List Tg} {i : Nat} {v : Value} {W : World} {p : Nat → Bool} (h : tg[i]? = some (.set p)) (hp : postL tg i v W) : v = .agg #[.int .u64 (wd p 0 : Int), .int .u64 (wd p 1 : Int), .int .u64 (wd p 2 : Int), .int .u64 (wd p 3 : Int)] := by
  unfold postL at hp; rw [h] at hp; exact hp
theorem get_sl {tg : List Tg} {i : Nat} {v : Value} {W : World} {ps : List (Nat → Bool)} (h : tg[i]? = some (.sl ps)) (hp : postL tg i v W) : RdS W v ps := by
  unfold postL at hp; rw [h] at hp; exact hp
theorem get_one {tg : List Tg} {i : Nat} {v x : Value} {W : World} (h : tg[i]? = some (.one x)) (hp : postL tg i v W) : v = x := by
  unfold postL at hp; rw [h] at hp; exact hp
theorem put_set {tg : List Tg} {i : Nat} {W : World} {p : Nat → Bool} (h : tg[i]? = some (.set p)) : postL tg i (.agg #[.int .u64 (wd p 0 : Int), .int .u64 (wd p 1 : Int), .int .u64 (wd p 2 : Int), .int .u64 (wd p 3 : Int)]) W := by
  unfold postL; rw [h]; rfl
theorem put_sl {tg : List Tg} {i : Nat} {v : Value} {W : World} {ps : List (Nat → Bool)} (h : tg[i]? = some (.sl ps)) (hp : RdS W v ps) : postL tg i v W := by
  unfold postL; rw [h]; exact hp
theorem put_one {tg : List Tg} {i : Nat} {x : Value} {W : World} (h : tg[i]? = some (.one x)) : postL tg i x W := by
  unfold postL; rw [h]; rfl

def AllS (p : Nat → Oper → Prop) : Nat → List Oper → Prop
  | _, [] => True
  | k, o :: l => p k o ∧ AllS p (k + 1) l
theorem AllS.get {p : Nat → Oper → Prop} : ∀ (l : List Oper) (k : Nat), AllS p k l → ∀ j o, l[j]? = some o → p (k + j) o
  | [], _, _, _, _, h => by cases h
  | o' :: l, k, hp, 0, o, h => by
    simp only [List.getElem?_cons_zero, Option.some.injEq] at h
    subst h
    exact hp.1
  | o' :: l, k, hp, j + 1, o, h => by
    have := AllS.get l (k + 1) hp.2 j o (by simpa using h)
    rw [show k + (j + 1) = k + 1 + j by omega]
    exact this
def spliceT (l : List Value) (k n : Nat) (u : Nat → Value) : Array Value := (l.take k ++ ((List.range n).map u ++ l.drop (k + n))).toArray
theorem splice_self (l : List Value) (k n : Nat) (h : k + n ≤ l.length) : l.toArray = spliceT l k n (fun i => l.getD (k + i) undef) := by
  unfold spliceT
  congr 1
  refine List.ext_getElem? fun j => ?_
  rcases Nat.lt_or_ge j k with h1 | h1
  · rw [List.getElem?_append_left (by rw [List.length_take]; omega), List.getElem?_take, if_pos h1]
  · rw [List.getElem?_append_right (by rw [List.length_take]; omega), List.length_take, Nat.min_eq_left (by omega)]
    rcases Nat.lt_or_ge (j - k) n with h2 | h2
    · rw [List.getElem?_append_left (by simpa using h2), List.getElem?_map, List.getElem?_range h2]
      simp only [Option.map_some]
      rw [show k + (j - k) = j by omega, List.getD_eq_getElem?_getD, List.getElem?_eq_getElem (show j < l.length by omega)]
      rfl
    · rw [List.getElem?_append_right (by simpa using h2), List.getElem?_drop]
      congr 1
      simp
      omega
theorem mem_of {l : List Nat} {j : Nat} (h : l.contains j = true) : j ∈ l := by simpa using h

theorem wp_region_tags {P : Program} {Q : Exit → Act → World → Prop} {id : Nat} {l : List Oper} {tm : List Value} {ds : List Deferred} {w : World} (k n : Nat) (tg : List Tg) (hm : P.follows .mixedOrders = true) (hn0 : decide (n ≤ l.toArray.size) = true) (hk : decide (k + n ≤ tm.length) = true)
    (hback : (List.range l.toArray.size).all (fun i => (depsL .any l.toArray i).all (decide <| · < i)) = true)
    (hlast : (List.range l.toArray.size).all (fun i => decide (i < n) || (decide (i = n) && decide (l.toArray.size = n + 1) && (List.range n).all fun j => (depsL .any l.toArray n).contains j)) = true)
    (h : ∀ T : (Nat → Value) → Act, (∀ u, T u = { tmps := spliceT tm k n u, defers := ds }) →
      AllS (fun i o => ∀ u W, Ext w W → (∀ j ∈ depsL .any l.toArray i, postL tg j (u j) W) → wpList P l.toArray (stepQ fun a' W' => Ext W W' ∧ ∃ v, a' = T (updN u i v) ∧ postL tg i v W') [o] (T u) W) 0 (l.take n) ∧
      ∀ u W, Ext w W → (∀ j, j < n → postL tg j (u j) W) → wpList P l.toArray Q (l.drop n) (T u) W) : (Code.region id l.toArray true).wp P Q { tmps := tm.toArray, defers := ds } w := by
  obtain ⟨h1, h2⟩ := h (fun u => { tmps := spliceT tm k n u, defers := ds }) (fun _ => rfl)
  refine wp_region_inv n (fun u => { tmps := spliceT tm k n u, defers := ds }) (postL tg) (fun i => tm.getD (k + i) undef) (by rw [splice_self tm k n (of_decide_eq_true hk)]) hm (of_decide_eq_true hn0) (postL_ext tg) hback hlast (fun i o hi ho => ?_) (fun u W hx hp => h2 u W hx hp)
  have := AllS.get _ 0 h1 i o (by rw [List.getElem?_take, if_pos hi]; simpa using ho)
  rw [Nat.zero_add] at this
  exact this

/-- A row of two sets, just made. -/
theorem rds_two (W : World) (p q : Nat → Bool) (t : TypeId) (c : Nat) : RdS (W.alloc (.cells #[.int .u64 (wd p 0 : Int), .int .u64 (wd p 1 : Int), .int .u64 (wd p 2 : Int), .int .u64 (wd p 3 : Int), .int .u64 (wd q 0 : Int), .int .u64 (wd q 1 : Int), .int .u64 (wd q 2 : Int), .int .u64 (wd q 3 : Int)] t)) (.slice (some ⟨W.heap.size, 0, none⟩) 2 c) [p, q] := by
  have hB := Blk.new W t #[.int .u64 (wd p 0 : Int), .int .u64 (wd p 1 : Int), .int .u64 (wd p 2 : Int), .int .u64 (wd p 3 : Int), .int .u64 (wd q 0 : Int), .int .u64 (wd q 1 : Int), .int .u64 (wd q 2 : Int), .int .u64 (wd q 3 : Int)]
  refine ⟨_, _, rfl, fun j hj => ⟨W.heap.size, 0, rfl, fun i hi => ?_⟩⟩
  rw [hB.cell]
  have hj' : j = 0 ∨ j = 1 := by simp at hj; omega
  have hi' : i = 0 ∨ i = 1 ∨ i = 2 ∨ i = 3 := by omega
  rcases hj' with rfl | rfl <;> rcases hi' with rfl | rfl | rfl | rfl <;> rfl
theorem rds_three (W : World) (p q r : Nat → Bool) (t : TypeId) (c : Nat) : RdS (W.alloc (.cells #[.int .u64 (wd p 0 : Int), .int .u64 (wd p 1 : Int), .int .u64 (wd p 2 : Int), .int .u64 (wd p 3 : Int), .int .u64 (wd q 0 : Int), .int .u64 (wd q 1 : Int), .int .u64 (wd q 2 : Int), .int .u64 (wd q 3 : Int), .int .u64 (wd r 0 : Int), .int .u64 (wd r 1 : Int), .int .u64 (wd r 2 : Int), .int .u64 (wd r 3 : Int)] t)) (.slice (some ⟨W.heap.size, 0, none⟩) 3 c) [p, q, r] := by
  have hB := Blk.new W t #[.int .u64 (wd p 0 : Int), .int .u64 (wd p 1 : Int), .int .u64 (wd p 2 : Int), .int .u64 (wd p 3 : Int), .int .u64 (wd q 0 : Int), .int .u64 (wd q 1 : Int), .int .u64 (wd q 2 : Int), .int .u64 (wd q 3 : Int), .int .u64 (wd r 0 : Int), .int .u64 (wd r 1 : Int), .int .u64 (wd r 2 : Int), .int .u64 (wd r 3 : Int)]
  refine ⟨_, _, rfl, fun j hj => ⟨W.heap.size, 0, rfl, fun i hi => ?_⟩⟩
  rw [hB.cell]
  have hj' : j = 0 ∨ j = 1 ∨ j = 2 := by simp at hj; omega
  have hi' : i = 0 ∨ i = 1 ∨ i = 2 ∨ i = 3 := by omega
  rcases hj' with rfl | rfl | rfl <;> rcases hi' with rfl | rfl | rfl | rfl <;> rfl

end Go.Proofs.YtgfknlkpdiejgaaDoor

namespace Go.Proofs.YtgfknlkpdiejgaaDoor
open Go Go.RowKit

section
variable {P : Program} {ops : Array Oper} {md : Region.Mode} {Q : Exit → Act → World → Prop} {w0 : World}

def headA (m n : Nat) : Array Bool := (List.replicate n true ++ List.replicate (m - n) false).toArray
theorem wpAny_invz (n : Nat) (hn : n < ops.size) (T : (Nat → Value) → Act) (Post : Nat → Value → World → Prop) (stable : ∀ i v W W', Ext W W' → Post i v W → Post i v W')
    (hback : (List.range ops.size).all (fun i => (depsL md ops i).all (decide <| · < i)) = true)
    (hs : Region.sinkB md ops n = true) (hc : Region.chainB md ops n = true) (hq : Region.seqB md ops (ops.size - n) n (headA ops.size n) = true)
    (step : ∀ i o, i < n → ops[i]? = some o → ∀ u W, Ext w0 W → (∀ j ∈ depsL md ops i, Post j (u j) W) → wpList P ops (stepQ fun a' W' => Ext W W' ∧ ∃ v, a' = T (updN u i v) ∧ Post i v W') [o] (T u) W)
    (done : ∀ u W, Ext w0 W → (∀ j, j < n → Post j (u j) W) → wpList P ops Q (ops.toList.drop n) (T u) W) :
    ∀ (f : Nat) (listed : Array Bool) (u : Nat → Value) (W : World), Ext w0 W → HeadInv md ops n listed → cntF listed.toList = f →
      (∀ j, j < n → listed.getD j false = true → Post j (u j) W) → wpAny P md ops Q f listed (T u) W := fun f => by
  induction f with
  | zero =>
    intro listed u W hx inv hcn hp
    exact (cntF_zero _ hcn n (getD_false_iff.1 (inv.tail n (Nat.le_refl _) hn))).elim
  | succ f ih =>
    intro listed u W hx inv hcn hp
    by_cases hall : ∀ j, j < n → listed.getD j true = true
    · have he : listed = headA ops.size n := by
        apply Array.ext
        · simp [headA, inv.size]; omega
        · intro i h1 h2
          have h3 : i < ops.size := by rw [← inv.size]; exact h1
          rcases Nat.lt_or_ge i n with h | h
          · have := hall i h
            rw [Array.getD_eq_getD_getElem?, Array.getElem?_eq_getElem h1] at this
            simp only [Option.getD_some] at this
            rw [this]
            simp [headA, h]
          · have := inv.tail i h h3
            rw [Array.getD_eq_getD_getElem?, Array.getElem?_eq_getElem h1] at this
            simp only [Option.getD_some] at this
            rw [this]
            simp [headA, List.getElem_append_right, h]
      have hlen : (ops.toList.drop n).length = ops.size - n := by simp
      have hf : f + 1 = ops.size - n := by
        rw [← hcn, he]
        unfold headA cntF
        simp
      have := wpAny_of_seq (md := md) (Q' := Q) (ops.toList.drop n) n listed (T u) W (fun j => by simp [List.getElem?_drop]) (by rw [hlen, he]; exact hq) (done u W hx (fun j hj => hp j hj (by
        have := hall j hj
        have h3 : j < listed.size := by rw [inv.size]; omega
        rw [Array.getD_eq_getD_getElem?, Array.getElem?_eq_getElem h3] at this ⊢
        exact this)))
      rw [hlen, ← hf] at this
      exact this
    · obtain ⟨i0, hi0⟩ := Classical.not_forall.1 hall
      obtain ⟨hi0n, hi0u⟩ := Classical.not_imp.1 hi0
      have hun0 : listed.getD i0 true = false := by simpa using hi0u
      refine ⟨fun hr => absurd hr (ready_some inv.size hback i0 hun0), fun i hi => ?_⟩
      have hin : i < n := by
        rcases Nat.lt_or_ge i n with h | h
        · exact h
        · exact absurd hi (tail_waits hs hc hn inv _ i0 rfl hi0n hun0 i h)
      obtain ⟨hun, o, ho, hdeps⟩ := mem_ready.1 hi
      have hdl : ∀ j ∈ depsL md ops i, listed.getD j false = true := fun j hj => by
        unfold depsL at hj
        rw [ho] at hj
        obtain ⟨e, he, rfl⟩ := List.mem_map.1 hj
        obtain ⟨he1, he2⟩ := List.mem_filter.1 he
        exact hdeps e (by simpa using he1) he2
      have hdlt : ∀ j ∈ depsL md ops i, j < i := fun j hj => by
        have := (List.all_eq_true.1 hback) i (List.mem_range.2 (by omega))
        simpa using (List.all_eq_true.1 this) _ hj
      refine wpOp_of_list ho ?_ (step i o hin ho u W hx (fun j hj => hp j (by have := hdlt j hj; omega) (hdl j hj)))
      rintro a' W' ⟨hx', v, rfl, hv⟩
      refine ih (listed.setIfInBounds i true) (updN u i v) W' (hx.trans hx') (inv.set hi hin) ?_ (fun j hj hl => ?_)
      · rw [Array.toList_setIfInBounds]
        have := cntF_set listed.toList i (getD_false_iff.1 hun)
        omega
      · unfold updN
        by_cases hji : j = i
        · rw [if_pos hji, hji]; exact hv
        · rw [if_neg hji]
          rw [getD_set_ne false (fun e => hji e.symm)] at hl
          exact stable j _ W W' hx' (hp j hj hl)
end

theorem wp_region_tagz {P : Program} {Q : Exit → Act → World → Prop} {id : Nat} {l : List Oper} {tm : List Value} {ds : List Deferred} {w : World} (k n : Nat) (tg : List Tg) (hm : P.follows .mixedOrders = true) (hn0 : decide (n < l.toArray.size) = true) (hk : decide (k + n ≤ tm.length) = true)
    (hback : (List.range l.toArray.size).all (fun i => (depsL .any l.toArray i).all (decide <| · < i)) = true)
    (hs : Region.sinkB .any l.toArray n = true) (hc : Region.chainB .any l.toArray n = true) (hq : Region.seqB .any l.toArray (l.toArray.size - n) n (headA l.toArray.size n) = true)
    (h : ∀ T : (Nat → Value) → Act, (∀ u, T u = { tmps := spliceT tm k n u, defers := ds }) →
      AllS (fun i o => ∀ u W, Ext w W → (∀ j ∈ depsL .any l.toArray i, postL tg j (u j) W) → wpList P l.toArray (stepQ fun a' W' => Ext W W' ∧ ∃ v, a' = T (updN u i v) ∧ postL tg i v W') [o] (T u) W) 0 (l.take n) ∧
      ∀ u W, Ext w W → (∀ j, j < n → postL tg j (u j) W) → wpList P l.toArray Q (l.drop n) (T u) W) : (Code.region id l.toArray true).wp P Q { tmps := tm.toArray, defers := ds } w := by
  obtain ⟨h1, h2⟩ := h (fun u => { tmps := spliceT tm k n u, defers := ds }) (fun _ => rfl)
  refine wp_region_any hm ?_
  rw [splice_self tm k n (of_decide_eq_true hk)]
  refine wpAny_invz (w0 := w) n (of_decide_eq_true hn0) (fun u => { tmps := spliceT tm k n u, defers := ds }) (postL tg) (postL_ext tg) hback hs hc hq (fun i o hi ho => ?_) (fun u W hx hp => h2 u W hx hp) l.toArray.size (Array.replicate l.toArray.size false) (fun i => tm.getD (k + i) undef) _ (Ext.refl w).drew ⟨by simp, fun j oj _ hl => (by rw [getD_replicate_false] at hl; cases hl), fun t _ ht => getD_in (by simpa using ht) (getD_replicate_false _ _)⟩ ?_ (fun j _ hl => ?_)
  · have := AllS.get _ 0 h1 i o (by rw [List.getElem?_take, if_pos hi]; simpa using ho)
    rw [Nat.zero_add] at this
    exact this
  · rw [Array.toList_replicate]
    unfold cntF
    rw [List.filter_replicate]
    simp
  · rw [getD_replicate_false] at hl
    cases hl

/-- What each temporary holds, as a list of conditions that last along growth. -/
def postP (tg : List (Value → World → Prop)) (i : Nat) (v : Value) (W : World) : Prop := match tg[i]? with | some p => p v W | none => True
def Lasts (tg : List (Value → World → Prop)) : Prop := ∀ p ∈ tg, ∀ v W W', Ext W W' → p v W → p v W'
theorem Lasts.nil : Lasts [] := fun _ h => by cases h
theorem Lasts.cons {p : Value → World → Prop} {tg : List (Value → World → Prop)} (hp : ∀ v W W', Ext W W' → p v W → p v W') (h : Lasts tg) : Lasts (p :: tg) := fun q hq => by
  rcases List.mem_cons.1 hq with rfl | hq
  · exact hp
  · exact h q hq
theorem Lasts.is {x : Value} {tg : List (Value → World → Prop)} (h : Lasts tg) : Lasts ((fun v _ => v = x) :: tg) := h.cons fun _ _ _ _ h => h
theorem wp_region_predz {P : Program} {Q : Exit → Act → World → Prop} {id : Nat} {l : List Oper} {tm : List Value} {ds : List Deferred} {w : World} (k n : Nat) (tg : List (Value → World → Prop)) (hst : Lasts tg) (hm : P.follows .mixedOrders = true) (hn0 : decide (n < l.toArray.size) = true) (hk : decide (k + n ≤ tm.length) = true)
    (hback : (List.range l.toArray.size).all (fun i => (depsL .any l.toArray i).all (decide <| · < i)) = true)
    (hs : Region.sinkB .any l.toArray n = true) (hc : Region.chainB .any l.toArray n = true) (hq : Region.seqB .any l.toArray (l.toArray.size - n) n (headA l.toArray.size n) = true)
    (h : ∀ T : (Nat → Value) → Act, (∀ u, T u = { tmps := spliceT tm k n u, defers := ds }) →
      AllS (fun i o => ∀ u W, Ext w W → (∀ j ∈ depsL .any l.toArray i, postP tg j (u j) W) → wpList P l.toArray (stepQ fun a' W' => Ext W W' ∧ ∃ v, a' = T (updN u i v) ∧ postP tg i v W') [o] (T u) W) 0 (l.take n) ∧
      ∀ u W, Ext w W → (∀ j, j < n → postP tg j (u j) W) → wpList P l.toArray Q (l.drop n) (T u) W) : (Code.region id l.toArray true).wp P Q { tmps := tm.toArray, defers := ds } w := by
  obtain ⟨h1, h2⟩ := h (fun u => { tmps := spliceT tm k n u, defers := ds }) (fun _ => rfl)
  refine wp_region_any hm ?_
  rw [splice_self tm k n (of_decide_eq_true hk)]
  refine wpAny_invz (w0 := w) n (of_decide_eq_true hn0) (fun u => { tmps := spliceT tm k n u, defers := ds }) (postP tg) (fun i v W W' hx hp => ?_) hback hs hc hq (fun i o hi ho => ?_) (fun u W hx hp => h2 u W hx hp) l.toArray.size (Array.replicate l.toArray.size false) (fun i => tm.getD (k + i) undef) _ (Ext.refl w).drew ⟨by simp, fun j oj _ hl => (by rw [getD_replicate_false] at hl; cases hl), fun t _ ht => getD_in (by simpa using ht) (getD_replicate_false _ _)⟩ ?_ (fun j _ hl => ?_)
  · unfold postP at *
    cases e : tg[i]? with
    | none => trivial
    | some q =>
      rw [e] at hp
      exact hst q (List.mem_of_getElem? e) v W W' hx hp
  · have := AllS.get _ 0 h1 i o (by rw [List.getElem?_take, if_pos hi]; simpa using ho)
    rw [Nat.zero_add] at this
    exact this
  · rw [Array.toList_replicate]
    unfold cntF
    rw [List.filter_replicate]
    simp
  · rw [getD_replicate_false] at hl
    cases hl

end Go.Proofs.YtgfknlkpdiejgaaDoor

namespace Go.Proofs.YtgfknlkpdiejgaaDoor
open Go Go.RowKit

theorem form_rep {h : Hd} {subs : List Nd} (hf : formB (.mk h subs) = true) (hk : h.kind = 8) : h.max = -1 ∨ h.min ≤ h.max := by
  rw [formB, Bool.and_eq_true] at hf
  have h1 := hf.1
  unfold formedB at h1
  rw [if_neg (by omega), if_neg (by omega), if_neg (by omega), if_neg (by omega), if_pos hk] at h1
  simp only [Bool.and_eq_true, Bool.or_eq_true, decide_eq_true_eq] at h1
  omega
section
variable {x : Value} {s : ByteArray} {m : List UInt8} {nw : Nat}
set_option maxRecDepth 100000 in
set_option maxHeartbeats 16000000 in
theorem lead_one (h : Hd) (subs : List Nd) (IH : ∀ n ∈ subs, LeadOf x s m (lfM s m) nw n) (hnw : s.size / 64 < nw) (hnn : nw ≤ 100000000) (hss : s.size ≤ 1000000) (hm : m.length ≤ 10000000) (hll : subs.length ≤ 1000000000) : LeadOf x s m (lfM s m) nw (.mk h subs) := by
  intro ev sv svn v tg tk back p w hf hE hS hA hN hT hR hp
  have hsub := form_sub hf
  have hcase := form_cases hf
  have HMX : Hid (h.kind = 8 → h.max = -1 ∨ h.min ≤ h.max) := Lib.hid (form_rep hf)
  have HE := Lib.hid hE
  obtain ⟨ge, hev, hge⟩ := hE
  subst hev
  have HS := Lib.hid hS
  have HA := Lib.hid hA
  have HN := Lib.hid hN
  have HT := Lib.hid hT
  have HRD := Lib.hid hR
  have HP := Lib.hid hp
  have HIH := Lib.hid IH
  have HSUB := Lib.hid hsub
  have hrl := hR.lt (by omega)
  have HRL := Lib.hid hrl
  obtain ⟨A, c, rfl, hlc⟩ := hR.shape
  simp only [Nd.h] at hA HA
  have n0 : w.cell? ⟨tg, tk, none⟩ = some (.int .i64 h.kind) := hA 0 (by decide)
  have n5 : w.cell? ⟨tg, tk + 5, none⟩ = some svn := hA 5 (by decide)
  have n7 : w.cell? ⟨tg, tk + 7, none⟩ = some (.int .i64 h.min) := hA 7 (by decide)
  have n8 : w.cell? ⟨tg, tk + 8, none⟩ = some (.int .i64 h.max) := hA 8 (by decide)
  obtain ⟨SA, sc, rfl, hNs⟩ := hN
  have HNS := Lib.hid hNs
  have htab : 4 < w.heap.size := World.block_lt_of_cell? w _ (hT 0 (by decide))
  clear hf hge hS hA hT hR hp IH hsub hrl hNs
  go_enter Tryd.func21, Tryd.ntmps21
  go_upto_region 1 with fail
  have hx1 : Ext w (((w.alloc (.cells #[.pointer (some ⟨ge, 0, none⟩)] 54)).alloc (.cells #[.pointer (some ⟨tg, tk, none⟩)] 61)).alloc (.cells #[.bool back] 4)) := (((Ext.refl w).alloc _).alloc _).alloc _
  have hb1 : Blk (((w.alloc (.cells #[.pointer (some ⟨ge, 0, none⟩)] 54)).alloc (.cells #[.pointer (some ⟨tg, tk, none⟩)] 61)).alloc (.cells #[.bool back] 4)) w.heap.size 54 #[.pointer (some ⟨ge, 0, none⟩)] := ((Blk.new w _ _).alloc _).alloc _
  have hb2 : Blk (((w.alloc (.cells #[.pointer (some ⟨ge, 0, none⟩)] 54)).alloc (.cells #[.pointer (some ⟨tg, tk, none⟩)] 61)).alloc (.cells #[.bool back] 4)) (w.heap.size + 1) 61 #[.pointer (some ⟨tg, tk, none⟩)] := by
    have := (Blk.new (w.alloc (.cells #[.pointer (some ⟨ge, 0, none⟩)] 54)) 61 #[.pointer (some ⟨tg, tk, none⟩)]).alloc (.cells #[.bool back] 4)
    rwa [World.size_alloc] at this
  have hb3 : Blk (((w.alloc (.cells #[.pointer (some ⟨ge, 0, none⟩)] 54)).alloc (.cells #[.pointer (some ⟨tg, tk, none⟩)] 61)).alloc (.cells #[.bool back] 4)) (w.heap.size + 1 + 1) 4 #[.bool back] := by
    have := Blk.new ((w.alloc (.cells #[.pointer (some ⟨ge, 0, none⟩)] 54)).alloc (.cells #[.pointer (some ⟨tg, tk, none⟩)] 61)) 4 #[.bool back]
    rwa [World.size_alloc, World.size_alloc] at this
  have hs1 : (((w.alloc (.cells #[.pointer (some ⟨ge, 0, none⟩)] 54)).alloc (.cells #[.pointer (some ⟨tg, tk, none⟩)] 61)).alloc (.cells #[.bool back] 4)).heap.size = w.heap.size + 1 + 1 + 1 := by rw [World.size_alloc, World.size_alloc, World.size_alloc]
  generalize ((w.alloc (.cells #[.pointer (some ⟨ge, 0, none⟩)] 54)).alloc (.cells #[.pointer (some ⟨tg, tk, none⟩)] 61)).alloc (.cells #[.bool back] 4) = w1 at *
  obtain ⟨be, hbe⟩ : ∃ be, be = w.heap.size := ⟨_, rfl⟩
  rw [← hbe] at hb1 hb2 hb3 hs1
  simp only [← hbe]
  have HX1 := Lib.hid hx1
  have HB1 := Lib.hid hb1
  have HB2 := Lib.hid hb2
  have HB3 := Lib.hid hb3
  have HBE := Lib.hid hbe
  have ce : w1.cell? ⟨be, 0, none⟩ = some (.pointer (some ⟨ge, 0, none⟩)) := hb1.cell 0
  have ct : w1.cell? ⟨be + 1, 0, none⟩ = some (.pointer (some ⟨tg, tk, none⟩)) := hb2.cell 0
  have HNO := Lib.hid (none_any _ x sv nw w1 (HE.out.ext hx1) hnn)
  replace n0 := hx1.cell n0
  replace n5 := hx1.cell n5
  replace n7 := hx1.cell n7
  replace n8 := hx1.cell n8
  have hs1' : be + 3 ≤ w1.heap.size := by omega
  have hbw : w.heap.size ≤ be := by omega
  clear hx1 hb1 hb2 hb3 hs1 hbe
  go_upto_region 2 with (go_at_call 33; refine HNO.out.mono ?_; rintro e w2 ⟨v2, rfl, how2, hx2⟩; obtain ⟨g2, c2, cur2, hv2, hg2, hb2', hlc2, _⟩ := own_words how2 (by omega); subst hv2)
  have hx23 : Ext w2 (w2.alloc (.cells #[.slice (some ⟨g2, 0, none⟩) nw c2] 59)) := (Ext.refl w2).alloc _
  have hbto : Blk (w2.alloc (.cells #[.slice (some ⟨g2, 0, none⟩) nw c2] 59)) w2.heap.size 59 #[.slice (some ⟨g2, 0, none⟩) nw c2] := Blk.new w2 _ _
  have hs3 : w2.heap.size < (w2.alloc (.cells #[.slice (some ⟨g2, 0, none⟩) nw c2] 59)).heap.size := by rw [World.size_alloc]; omega
  generalize w2.alloc (.cells #[.slice (some ⟨g2, 0, none⟩) nw c2] 59) = w3 at *
  have hg2l := hb2'.lt
  generalize w2.heap.size = bto at *
  have hx13 : Ext w1 w3 := hx2.trans hx23
  have HX3 := Lib.hid (HX1.out.trans hx13)
  have HX13 := Lib.hid hx13
  have HO3 := Lib.hid (how2.ext hx23)
  have HBT := Lib.hid hbto
  replace n0 := hx13.cell n0
  replace n5 := hx13.cell n5
  replace n7 := hx13.cell n7
  replace n8 := hx13.cell n8
  replace ce := hx13.cell ce
  replace ct := hx13.cell ct
  have cb : w3.cell? ⟨be + 1 + 1, 0, none⟩ = some (.bool back) := hx13.cell (HB3.out.cell 0)
  have cto : w3.cell? ⟨bto, 0, none⟩ = some (.slice (some ⟨g2, 0, none⟩) nw c2) := hbto.cell 0
  have hs13 := hx13.size
  clear hx2 hx23 hbto hb2' how2 hx13 HNO HB3 HB1 HB2
  -- what the row of 'to' is apart from
  have HKE := Lib.hid (fun W (hk : Keeps (fun k => (Value.slice (some ⟨g2, 0, none⟩) nw c2).ownBlock = some k) w3 W) => (HX3.out.keeps hk (fun i h1 h2 => by have := own_at h2; omega) : Ext w W))
  have HKC := Lib.hid (fun W (p : Addr) v (hk : Keeps (fun k => (Value.slice (some ⟨g2, 0, none⟩) nw c2).ownBlock = some k) w3 W) (h : w3.cell? p = some v) (hne : p.block ≠ g2) => (cell_keeps h hk (fun h2 => hne (own_at h2)) : W.cell? p = some v))
  rcases hcase with ⟨hk, hn⟩ | ⟨hk, hn⟩ | ⟨hk, hn⟩ | ⟨hk, hn⟩ | ⟨hk, hn⟩ | ⟨hk, hn⟩ | ⟨hk, hn, hn1, hn2⟩ | ⟨hk, hn, hn1, hn2, hn3, hn4⟩
  · -- nothing
    have HF := Lib.hid (img_none (s := s) (m := m) (subs := subs) hk back HP.out)
    rw [hk] at n0
    clear hk
    go_wp2
    go_ret
    exact ⟨_, rfl, HX3.out, by rw [HF.out]; exact HRD.out.ext HX3.out, .inl rfl⟩
  · -- bytes
    have HF := Lib.hid (acc_byte (s := s) (m := m) (subs := subs) hk back p)
    rw [hk] at n0
    clear hk
    go_upto_region 5 with fail
    have hx34 : Ext w3 (w3.alloc (.cells #[.int .i64 1] 3)) := (Ext.refl w3).alloc _
    have hbs : Blk (w3.alloc (.cells #[.int .i64 1] 3)) w3.heap.size 3 #[.int .i64 1] := Blk.new w3 _ _
    have hs4 : w3.heap.size < (w3.alloc (.cells #[.int .i64 1] 3)).heap.size := by rw [World.size_alloc]; omega
    generalize w3.alloc (.cells #[.int .i64 1] 3) = w4 at *
    generalize hbz : w3.heap.size = bs at *
    have HBZ := Lib.hid hbz
    clear hbz
    have HX34 := Lib.hid hx34
    have HBS := Lib.hid hbs
    replace ce := hx34.cell ce
    replace ct := hx34.cell ct
    replace cb := hx34.cell cb
    replace cto := hx34.cell cto
    clear hx34
    have cs1 : w4.cell? ⟨bs, 0, none⟩ = some (.int .i64 1) := hbs.cell 0
    have fs1 := hbs.frozen 0
    clear hbs
    go_cut [21] (fun v wx => v = .bool back ∧ w4 = wx)
    case first =>
      go_wp2
      go_meet
      case rel => exact ⟨rfl, rfl⟩
    obtain ⟨rfl, rfl⟩ := hcut
    go_step
    go_cut [21] (fun _ wx => wx.cell? ⟨bs, 0, none⟩ = some (.int .i64 (if back then -1 else 1)) ∧ Keeps (· = bs) w4 wx)
    case first =>
      cases back with
      | true =>
        go_wp2
        go_meet
        case rel =>
          refine ⟨?_, (Keeps.refl (· = bs) w4).setCell (p := ⟨bs, 0, none⟩) (.inr rfl) _⟩
          have := (HBS.out.set 0 (.int .i64 (-1))).cell 0
          simpa using this
      | false =>
        go_wp2
        go_meet
        case rel => exact ⟨cs1, Keeps.refl _ _⟩
    obtain ⟨cs5, hk5⟩ := hcut
    obtain ⟨w5, hw5⟩ : ∃ w, w = wc := ⟨_, rfl⟩
    subst hw5
    have hs5 := hk5.size
    have hne : ∀ (a : Nat), a < bs → ¬ a = bs := fun a h => by omega
    replace ce := cell_keeps ce hk5 (hne _ (by simp only; omega))
    replace ct := cell_keeps ct hk5 (hne _ (by simp only; omega))
    replace cb := cell_keeps cb hk5 (hne _ (by simp only; omega))
    replace cto := cell_keeps cto hk5 (hne _ (by simp only; omega))
    have hx35 : Ext w3 w5 := HX34.out.keeps hk5 (fun i h1 h2 => by have h3 : i = bs := h2; have := HBZ.out; omega)
    have HX35 := Lib.hid hx35
    have hx05 : Ext w w5 := HX3.out.trans hx35
    have HX5 := Lib.hid hx05
    have HC := Lib.hid (fun (i : Nat) (acc : Pl) (W : World) (hpi : p i = true) (hoW : OwnP W w1.heap.size (.slice (some ⟨g2, 0, none⟩) nw c2) nw acc) (hK : Keeps (fun k => (Value.slice (some ⟨g2, 0, none⟩) nw c2).ownBlock = some k) w5 W) =>
      (leadA_any i back (.pointer (some ⟨ge, 0, none⟩)) x sv nw tg tk h (.slice SA subs.length sc) (.slice (some ⟨g2, 0, none⟩) nw c2) w1.heap.size acc s m (be + 1 + 1) be (be + 1) bto bs W
        (cell_keeps cb hK (fun h2 => by have := own_at h2; simp only at this; omega)) (cell_keeps ce hK (fun h2 => by have := own_at h2; simp only at this; omega)) (cell_keeps ct hK (fun h2 => by have := own_at h2; simp only at this; omega)) (cell_keeps cto hK (fun h2 => by have := own_at h2; simp only at this; omega)) (cell_keeps cs5 hK (fun h2 => by have := own_at h2; simp only at this; omega))
        (HE.out.ext (HX5.out.keeps hK (fun i h1 h2 => by have := own_at h2; omega))) (HS.out.ext (HX5.out.keeps hK (fun i h1 h2 => by have := own_at h2; omega))) (HA.out.ext (HX5.out.keeps hK (fun i h1 h2 => by have := own_at h2; omega))) hoW (HP.out i hpi) hnw hnn hss))
    have HEA := Lib.hid (eachA_any (.slice A nw c) (.slice (some ⟨g2, 0, none⟩) nw c2) w1.heap.size nw s.size p noP (addB s h.set back) (.pointer (some ⟨be + 1 + 1, 0, none⟩)) (.pointer (some ⟨be, 0, none⟩)) (.pointer (some ⟨be + 1, 0, none⟩)) (.pointer (some ⟨bto, 0, none⟩)) (.pointer (some ⟨bs, 0, none⟩)) w5
      (HRD.out.ext hx05) HP.out hnw hnn (fun g hg e => by have := HRL.out g hg; have := own_at e; omega) (HT.out.ext hx05) (by omega) (HO3.out.ext hx35) HC)
    rw [HF.out] at HEA
    clear HC hx35 hx05 hk5
    go_upto_region 8 with (go_at_call 34; refine HEA.out.mono ?_; rintro e w6 ⟨rfl, ho6, hk6⟩)
    have cto6 := cell_keeps cto hk6 (fun h2 => by have := own_at h2; simp only at this; omega)
    have hx6 : Ext w w6 := HX5.out.keeps hk6 (fun i h1 h2 => by have := own_at h2; omega)
    clear ce ct cb cto cs5 hk6 fs1 cs1
    go_wp2
    go_ret
    exact ⟨_, rfl, hx6, RdP.of_own ho6, .inr (fun g hg => by (injection hg with hg); have hg' : g2 = g := hg; omega)⟩
  · -- a beginning
    have HF := Lib.hid (acc_mark (s := s) (m := m) (subs := subs) (k := 1) (.inl ⟨hk, rfl⟩) back HP.out)
    rw [hk] at n0
    clear hk
    go_upto_region 12 with fail
    have hx34 : Ext w3 (w3.alloc (.cells #[.int .i64 1] 3)) := (Ext.refl w3).alloc _
    have hbs : Blk (w3.alloc (.cells #[.int .i64 1] 3)) w3.heap.size 3 #[.int .i64 1] := Blk.new w3 _ _
    have hs4 : w3.heap.size < (w3.alloc (.cells #[.int .i64 1] 3)).heap.size := by rw [World.size_alloc]; omega
    generalize w3.alloc (.cells #[.int .i64 1] 3) = w4 at *
    generalize hbz : w3.heap.size = bs at *
    have HBZ := Lib.hid hbz
    clear hbz
    replace n0 := hx34.cell n0
    replace ce := hx34.cell ce
    replace ct := hx34.cell ct
    replace cto := hx34.cell cto
    have cs4 : w4.cell? ⟨bs, 0, none⟩ = some (.int .i64 1) := hbs.cell 0
    have fs4 := hbs.frozen 0
    go_upto_region 14 with fail
    have cs5 := cs4
    have hx35 := hx34
    have hs5 := hs4
    generalize w4 = w5 at *
    have hx05 : Ext w w5 := HX3.out.trans hx35
    have HX5 := Lib.hid hx05
    have HC := Lib.hid (fun (i : Nat) (acc : Pl) (W : World) (hpi : p i = true) (hoW : OwnP W w1.heap.size (.slice (some ⟨g2, 0, none⟩) nw c2) nw acc) (hK : Keeps (fun k => (Value.slice (some ⟨g2, 0, none⟩) nw c2).ownBlock = some k) w5 W) =>
      (leadB_any i (.pointer (some ⟨ge, 0, none⟩)) x sv nw (.slice (some ⟨g2, 0, none⟩) nw c2) w1.heap.size acc s m 1 be bs bto W
        (cell_keeps ce hK (fun h2 => by have := own_at h2; simp only at this; omega)) (cell_keeps cs5 hK (fun h2 => by have := own_at h2; simp only at this; omega)) (cell_keeps cto hK (fun h2 => by have := own_at h2; simp only at this; omega))
        (HE.out.ext (HX5.out.keeps hK (fun i h1 h2 => by have := own_at h2; omega))) (HS.out.ext (HX5.out.keeps hK (fun i h1 h2 => by have := own_at h2; omega))) hoW (by have h1 := HP.out i hpi; have : i / 64 ≤ s.size / 64 := Nat.div_le_div_right h1; omega) hnn hm))
    have HEA := Lib.hid (eachB_any (.slice A nw c) (.slice (some ⟨g2, 0, none⟩) nw c2) w1.heap.size nw s.size p noP (addM m 1) (.pointer (some ⟨be, 0, none⟩)) (.pointer (some ⟨bs, 0, none⟩)) (.pointer (some ⟨bto, 0, none⟩)) w5
      (HRD.out.ext hx05) HP.out hnw hnn (fun g hg e => by have := HRL.out g hg; have := own_at e; omega) (HT.out.ext hx05) (by omega) (HO3.out.ext hx35) HC)
    rw [HF.out] at HEA
    clear HC hx35 hx05 hx34 hbs
    go_upto_region 15 with (go_at_call 34; refine HEA.out.mono ?_; rintro e w6 ⟨rfl, ho6, hk6⟩)
    have cto6 := cell_keeps cto hk6 (fun h2 => by have := own_at h2; simp only at this; omega)
    have hx6 : Ext w w6 := HX5.out.keeps hk6 (fun i h1 h2 => by have := own_at h2; omega)
    clear ce cto cs5 hk6
    go_wp2
    go_ret
    exact ⟨_, rfl, hx6, RdP.of_own ho6, .inr (fun g hg => by (injection hg with hg); have hg' : g2 = g := hg; omega)⟩
  · -- an end
    have HF := Lib.hid (acc_mark (s := s) (m := m) (subs := subs) (k := 2) (.inr ⟨hk, rfl⟩) back HP.out)
    rw [hk] at n0
    clear hk
    go_upto_region 12 with fail
    have hx34 : Ext w3 (w3.alloc (.cells #[.int .i64 1] 3)) := (Ext.refl w3).alloc _
    have hbs : Blk (w3.alloc (.cells #[.int .i64 1] 3)) w3.heap.size 3 #[.int .i64 1] := Blk.new w3 _ _
    have hs4 : w3.heap.size < (w3.alloc (.cells #[.int .i64 1] 3)).heap.size := by rw [World.size_alloc]; omega
    generalize w3.alloc (.cells #[.int .i64 1] 3) = w4 at *
    generalize hbz : w3.heap.size = bs at *
    have HBZ := Lib.hid hbz
    clear hbz
    replace n0 := hx34.cell n0
    replace ce := hx34.cell ce
    replace ct := hx34.cell ct
    replace cto := hx34.cell cto
    have cs4 : w4.cell? ⟨bs, 0, none⟩ = some (.int .i64 1) := hbs.cell 0
    have fs4 := hbs.frozen 0
    go_upto_region 14 with fail
    have hk5 : Keeps (· = bs) w4 (w4.setCell ⟨bs, 0, none⟩ (.int .i64 2)) := (Keeps.refl (· = bs) w4).setCell (p := ⟨bs, 0, none⟩) (.inr rfl) _
    have cs5 : (w4.setCell ⟨bs, 0, none⟩ (.int .i64 2)).cell? ⟨bs, 0, none⟩ = some (.int .i64 2) := by
      have := (hbs.set 0 (.int .i64 2)).cell 0
      simpa using this
    have hx35 : Ext w3 (w4.setCell ⟨bs, 0, none⟩ (.int .i64 2)) := hx34.keeps hk5 (fun i h1 h2 => by have h3 : i = bs := h2; have := HBZ.out; omega)
    have hs5 : bs < (w4.setCell ⟨bs, 0, none⟩ (.int .i64 2)).heap.size := by rw [World.size_setCell]; exact hs4
    have hne : ∀ (a : Nat), a < bs → ¬ a = bs := fun a h => by omega
    replace ce := cell_keeps ce hk5 (hne _ (by simp only; omega))
    replace cto := cell_keeps cto hk5 (hne _ (by simp only; omega))
    clear hk5 cs4 fs4 n0 ct
    generalize w4.setCell ⟨bs, 0, none⟩ (.int .i64 2) = w5 at *
    have hx05 : Ext w w5 := HX3.out.trans hx35
    have HX5 := Lib.hid hx05
    have HC := Lib.hid (fun (i : Nat) (acc : Pl) (W : World) (hpi : p i = true) (hoW : OwnP W w1.heap.size (.slice (some ⟨g2, 0, none⟩) nw c2) nw acc) (hK : Keeps (fun k => (Value.slice (some ⟨g2, 0, none⟩) nw c2).ownBlock = some k) w5 W) =>
      (leadB_any i (.pointer (some ⟨ge, 0, none⟩)) x sv nw (.slice (some ⟨g2, 0, none⟩) nw c2) w1.heap.size acc s m 2 be bs bto W
        (cell_keeps ce hK (fun h2 => by have := own_at h2; simp only at this; omega)) (cell_keeps cs5 hK (fun h2 => by have := own_at h2; simp only at this; omega)) (cell_keeps cto hK (fun h2 => by have := own_at h2; simp only at this; omega))
        (HE.out.ext (HX5.out.keeps hK (fun i h1 h2 => by have := own_at h2; omega))) (HS.out.ext (HX5.out.keeps hK (fun i h1 h2 => by have := own_at h2; omega))) hoW (by have h1 := HP.out i hpi; have : i / 64 ≤ s.size / 64 := Nat.div_le_div_right h1; omega) hnn hm))
    have HEA := Lib.hid (eachB_any (.slice A nw c) (.slice (some ⟨g2, 0, none⟩) nw c2) w1.heap.size nw s.size p noP (addM m 2) (.pointer (some ⟨be, 0, none⟩)) (.pointer (some ⟨bs, 0, none⟩)) (.pointer (some ⟨bto, 0, none⟩)) w5
      (HRD.out.ext hx05) HP.out hnw hnn (fun g hg e => by have := HRL.out g hg; have := own_at e; omega) (HT.out.ext hx05) (by omega) (HO3.out.ext hx35) HC)
    rw [HF.out] at HEA
    clear HC hx35 hx05 hx34 hbs
    go_upto_region 15 with (go_at_call 34; refine HEA.out.mono ?_; rintro e w6 ⟨rfl, ho6, hk6⟩)
    have cto6 := cell_keeps cto hk6 (fun h2 => by have := own_at h2; simp only at this; omega)
    have hx6 : Ext w w6 := HX5.out.keeps hk6 (fun i h1 h2 => by have := own_at h2; omega)
    clear ce cto cs5 hk6
    go_wp2
    go_ret
    exact ⟨_, rfl, hx6, RdP.of_own ho6, .inr (fun g hg => by (injection hg with hg); have hg' : g2 = g := hg; omega)⟩
  · -- one behind the other
    have HF := Lib.hid (dir_congr back (tk_seq (L := lfM s m) h subs hk))
    have HPA := Lib.hid (fun W (hW : Ext w W) => parts_lead (x := x) (m := m) subs HIH.out (lfM_ok s m) (.pointer (some ⟨ge, 0, none⟩)) sv (.slice A nw c) SA sc back p W HSUB.out (HE.out.ext hW) (HS.out.ext hW) (NdsOk.ext hW subs SA 0 HNS.out) (HT.out.ext hW) (HRD.out.ext hW) HP.out hll)
    rw [hk] at n0
    clear hk
    go_upto_region 27 with fail
    have ce' := cell_plus ce
    have ct' := cell_plus ct
    have cb' := cell_plus cb
    have n5' := cell_plus n5
    refine wp_region_plus_tail 7 (by kernel_rfl) (by kernel_rfl) ?_
    simp only [List.take_succ_cons, List.take_zero, List.drop_succ_cons, List.drop_zero]
    iterate 7 (go_big_quiet_step (fail))
    refine wpQuiet_nil ?_
    intro y
    have hx3y := HX3.out.trans (plus_ext w3 y)
    have HPY := Lib.hid (HPA.out _ hx3y)
    rw [← HF.out] at HPY
    have hsy := hx3y.size
    clear ce' ct' cb' n5' ce ct cb cto n0 n5 n7 n8
    go_wp2_with (go_at_call 43; refine HPY.out.mono ?_; rintro e w6 ⟨v6, rfl, hx6, hr6, hfrom6⟩)
    go_ret
    exact ⟨_, rfl, hx3y.trans hx6, hr6, hfrom6.elim .inl (fun h => .inr (fun g hg => Nat.le_trans hsy (h g hg)))⟩
  · -- one of several
    have HF := Lib.hid (dir_congr back (tk_alt (L := lfM s m) h subs hk))
    rw [hk] at n0
    clear hk
    have HSTEP := Lib.hid (fun k (hk : k < subs.length) => alt_step (L := lfM s m) back subs k hk p)
    have HNOP : Hid (img (dirR back (tkA (lfM s m) (subs.take 0))) p = noP) := Lib.hid (by rw [List.take_zero]; exact alt_none back p)
    go_upto_region 18 with fail
    go_loopw [45] (fun iv wr => ∃ k : Nat, k ≤ subs.length ∧ iv = .int .i64 k ∧ OwnP wr w1.heap.size (.slice (some ⟨g2, 0, none⟩) nw c2) nw (img (dirR back (tkA (lfM s m) (subs.take k))) p) ∧ Keeps (fun k => (Value.slice (some ⟨g2, 0, none⟩) nw c2).ownBlock = some k) w3 wr) (fun iv _ => subs.length - (intOf iv).toNat)
    case atStart => exact ⟨0, Nat.zero_le _, rfl, by rw [HNOP.out]; exact HO3.out, Keeps.refl _ _⟩
    case round =>
      obtain ⟨k, hkl, rfl, ho, hK⟩ := hrel
      obtain ⟨w4, hw4⟩ : ∃ w, w = wr := ⟨_, rfl⟩
      subst hw4
      have hx4 : Ext w w4 := HKE.out w4 hK
      have HX4 := Lib.hid hx4
      have HO4 := Lib.hid ho
      have HK4 := Lib.hid hK
      replace ce := HKC.out w4 _ _ hK ce (by simp only; omega)
      replace ct := HKC.out w4 _ _ hK ct (by simp only; omega)
      replace cb := HKC.out w4 _ _ hK cb (by simp only; omega)
      replace cto := HKC.out w4 _ _ hK cto (by simp only; omega)
      have hs34 := hK.size
      by_cases hlt : k < subs.length
      · have q9 : (k : Int) < (subs.length : Int) := by omega
        obtain ⟨g0, o0, sv0, rfl, hat, hok⟩ := HNS.out.get k hlt
        have hat0 : NdAt w g0 (o0 + k * 10) (subs[k]).h sv0 := fun i hi => by have := hat i hi; rwa [Nat.zero_add] at this
        have n5w : w4.cell? ⟨tg, tk + 5, none⟩ = some (.slice (some ⟨g0, o0, none⟩) subs.length sc) := hx4.cell (HA.out 5 (by decide))
        have hst := HSTEP.out k hlt
        have HLK := Lib.hid (fun W (hW : Ext w4 W) => HIH.out subs[k] (List.getElem_mem hlt) (.pointer (some ⟨ge, 0, none⟩)) sv sv0 (.slice A nw c) g0 (o0 + k * 10) back p W (HSUB.out _ (List.getElem_mem hlt)) (HE.out.ext (HX4.out.trans hW)) (HS.out.ext (HX4.out.trans hW)) (hat0.ext (HX4.out.trans hW)) (hok.ext (HX4.out.trans hW)) (HT.out.ext (HX4.out.trans hW)) (HRD.out.ext (HX4.out.trans hW)) HP.out)
        generalize img (dirR back (tkN (lfM s m) subs[k])) p = qk at *
        have HST := Lib.hid hst
        clear n0 n5 n7 n8 hat hat0 hok hst ho hK hx4
        have n5 := n5w
        clear n5w
        go_upto_region 20 with fail
        refine wp_region_predz 48 11 [fun v _ => v = .slice (some ⟨g2, 0, none⟩) nw c2, fun v _ => v = .pointer (some ⟨ge, 0, none⟩), fun v _ => v = .pointer (some ⟨tg, tk, none⟩), fun v _ => v = .pointer (some ⟨tg, tk, none⟩), fun v _ => v = .pointer (some ⟨tg, tk + 5, none⟩), fun v _ => v = .slice (some ⟨g0, o0, none⟩) subs.length sc, fun v _ => v = .int .i64 k, fun v _ => v = .pointer (some ⟨g0, o0 + k * 10, none⟩), fun v _ => v = .slice A nw c, fun v _ => v = .bool back, fun v W => RdP W v nw qk ∧ (v = .slice A nw c ∨ ∀ g, blkOf v = some g → w4.heap.size ≤ g)] (Lasts.nil.cons fun v W W' hx ⟨h1, h2⟩ => ⟨h1.ext hx, h2⟩).is.is.is.is.is.is.is.is.is.is (by kernel_rfl) (by kernel_rfl) (by kernel_rfl) (by kernel_rfl) (by kernel_rfl) (by kernel_rfl) (by kernel_rfl) ?_
        intro T hT
        have r6 : List.range 11 = [0, 1, 2, 3, 4, 5, 6, 7, 8, 9, 10] := rfl
        simp only [spliceT, r6, List.map_cons, List.map_nil, List.take_succ_cons, List.take_zero, List.drop_succ_cons, List.drop_zero, List.cons_append, List.nil_append, Nat.reduceAdd] at hT
        simp only [List.take_succ_cons, List.take_zero, List.drop_succ_cons, List.drop_zero, AllS, Nat.reduceAdd]
        refine ⟨⟨?_, ?_, ?_, ?_, ?_, ?_, ?_, ?_, ?_, ?_, ?_, trivial⟩, ?_⟩
        · intro u W hx hd'
          clear hd'
          rw [hT u]
          have qf := hx.cell cto
          go_wp2
          exact stepQ_mk ⟨Ext.refl _, _, by rw [hT]; simp [updN], rfl⟩
        · intro u W hx hd'
          clear hd'
          rw [hT u]
          have qf := hx.cell ce
          go_wp2
          exact stepQ_mk ⟨Ext.refl _, _, by rw [hT]; simp [updN], rfl⟩
        · intro u W hx hd'
          clear hd'
          rw [hT u]
          have qf := hx.cell ct
          go_wp2
          exact stepQ_mk ⟨Ext.refl _, _, by rw [hT]; simp [updN], rfl⟩
        · intro u W hx hd'
          have t2 : u 2 = _ := hd' 2 (mem_of (by kernel_rfl))
          clear hd'
          rw [hT u, t2]
          go_wp2
          exact stepQ_mk ⟨Ext.refl _, _, by rw [hT]; simp [updN, t2], rfl⟩
        · intro u W hx hd'
          have t3 : u 3 = _ := hd' 3 (mem_of (by kernel_rfl))
          clear hd'
          rw [hT u, t3]
          go_wp2
          exact stepQ_mk ⟨Ext.refl _, _, by rw [hT]; simp [updN, t3], rfl⟩
        · intro u W hx hd'
          have t4 : u 4 = _ := hd' 4 (mem_of (by kernel_rfl))
          clear hd'
          rw [hT u, t4]
          have qf := hx.cell n5
          go_wp2
          exact stepQ_mk ⟨Ext.refl _, _, by rw [hT]; simp [updN, t4], rfl⟩
        · intro u W hx hd'
          clear hd'
          rw [hT u]
          go_wp2
          exact stepQ_mk ⟨Ext.refl _, _, by rw [hT]; simp [updN], rfl⟩
        · intro u W hx hd'
          have t5 : u 5 = _ := hd' 5 (mem_of (by kernel_rfl))
          have t6 : u 6 = _ := hd' 6 (mem_of (by kernel_rfl))
          clear hd'
          rw [hT u, t5, t6]
          go_wp2
          exact stepQ_mk ⟨Ext.refl _, _, by rw [hT]; simp [updN, t5, t6], rfl⟩
        · intro u W hx hd'
          clear hd'
          rw [hT u]
          go_wp2
          exact stepQ_mk ⟨Ext.refl _, _, by rw [hT]; simp [updN], rfl⟩
        · intro u W hx hd'
          clear hd'
          rw [hT u]
          have qf := hx.cell cb
          go_wp2
          exact stepQ_mk ⟨Ext.refl _, _, by rw [hT]; simp [updN], rfl⟩
        · intro u W hx hd'
          have t1 : u 1 = _ := hd' 1 (mem_of (by kernel_rfl))
          have t7 : u 7 = _ := hd' 7 (mem_of (by kernel_rfl))
          have t8 : u 8 = _ := hd' 8 (mem_of (by kernel_rfl))
          have t9 : u 9 = _ := hd' 9 (mem_of (by kernel_rfl))
          clear hd'
          rw [hT u, t1, t7, t8, t9]
          have HLW := Lib.hid (HLK.out W hx)
          have hsW := hx.size
          go_wp2_with (go_at_call 21; refine HLW.out.mono ?_; rintro e w4 ⟨v4, rfl, hx4, hr4, hfrom4⟩)
          exact stepQ_mk ⟨hx4, _, by rw [hT]; simp [updN, t1, t7, t8, t9], ⟨hr4, hfrom4.elim .inl (fun h => .inr (fun g hg => Nat.le_trans hsW (h g hg)))⟩⟩
        · intro u W hx hp
          have t0 : u 0 = _ := hp 0 (by omega)
          obtain ⟨hr4, hfrom4⟩ : RdP W (u 10) nw qk ∧ (u 10 = .slice A nw c ∨ ∀ g, blkOf (u 10) = some g → w4.heap.size ≤ g) := hp 10 (by omega)
          clear hp
          rw [hT u, t0]
          clear hT t0
          generalize u 10 = v10 at *
          obtain ⟨A10, c10, hv10, _⟩ := hr4.shape
          subst hv10
          have HJ := Lib.hid (joinP_any (.slice (some ⟨g2, 0, none⟩) nw c2) (.slice A10 nw c10) w1.heap.size nw _ qk W (HO4.out.ext hx) hr4 (fun g hg e => by
            have e2 := own_at e
            rcases hfrom4 with h | h
            · rw [h] at hg
              have := HRL.out g hg
              omega
            · have := h g hg
              omega) (hr4.lt (by omega)) hnn (by omega))
          rw [← HST.out] at HJ
          have HKW := Lib.hid (HK4.out.trans (Keeps.of_ext (F := fun k => (Value.slice (some ⟨g2, 0, none⟩) nw c2).ownBlock = some k) hx) (fun _ _ h => h))
          clear hx hr4 hfrom4 ce ct cb cto n5
          go_wp2_with (go_at_call 41; refine HJ.out.mono ?_; rintro e w5 ⟨f5, rfl, _, ho5, hk5⟩)
          go_roundw
          case rel => exact ⟨k + 1, hlt, by go_num, ho5, HKW.out.trans hk5 (fun _ _ h => h)⟩
          case measure => simp [intOf]; omega
      · have q9 : ¬ (k : Int) < (subs.length : Int) := by omega
        obtain rfl : k = subs.length := by omega
        rw [List.take_of_length_le (Nat.le_refl _), ← HF.out] at ho
        have HR := Lib.hid (RdP.of_own ho)
        clear ho hK hx4 ce ct cb
        go_wp2
        go_ret
        exact ⟨_, rfl, HX4.out, HR.out, .inr (fun g hg => by (injection hg with hg); have hg' : g2 = g := hg; omega)⟩
  · -- a group
    have HF := Lib.hid (dir_congr back (fun a b => by obtain ⟨s0, rfl⟩ := List.length_eq_one_iff.1 hn; rw [tkS_one]; exact tk_group (L := lfM s m) h s0 hk a b : ∀ a b, tkN (lfM s m) (.mk h subs) a b ↔ tkS (lfM s m) subs a b))
    have HPA := Lib.hid (fun W (hW : Ext w W) => parts_lead (x := x) (m := m) subs HIH.out (lfM_ok s m) (.pointer (some ⟨ge, 0, none⟩)) sv (.slice A nw c) SA sc back p W HSUB.out (HE.out.ext hW) (HS.out.ext hW) (NdsOk.ext hW subs SA 0 HNS.out) (HT.out.ext hW) (HRD.out.ext hW) HP.out hll)
    rw [hk] at n0
    clear hk hn hn1 hn2
    go_upto_region 27 with fail
    have ce' := cell_plus ce
    have ct' := cell_plus ct
    have cb' := cell_plus cb
    have n5' := cell_plus n5
    refine wp_region_plus_tail 7 (by kernel_rfl) (by kernel_rfl) ?_
    simp only [List.take_succ_cons, List.take_zero, List.drop_succ_cons, List.drop_zero]
    iterate 7 (go_big_quiet_step (fail))
    refine wpQuiet_nil ?_
    intro y
    have hx3y := HX3.out.trans (plus_ext w3 y)
    have HPY := Lib.hid (HPA.out _ hx3y)
    rw [← HF.out] at HPY
    have hsy := hx3y.size
    clear ce' ct' cb' n5' ce ct cb cto n0 n5 n7 n8
    go_wp2_with (go_at_call 43; refine HPY.out.mono ?_; rintro e w6 ⟨v6, rfl, hx6, hr6, hfrom6⟩)
    go_ret
    exact ⟨_, rfl, hx3y.trans hx6, hr6, hfrom6.elim .inl (fun h => .inr (fun g hg => Nat.le_trans hsy (h g hg)))⟩
  · -- a repeat
    obtain ⟨s0, rfl⟩ := List.length_eq_one_iff.1 hn
    have HF : Hid (dirR back (tkN (lfM s m) (.mk h [s0])) = rpR (dirR back (tkN (lfM s m) s0)) h.min h.max) := Lib.hid (by rw [dir_congr back (tk_rep (L := lfM s m) h s0 hk), dir_rp])
    obtain ⟨g0, o0, sv0, rfl, hat, hok⟩ := HNS.out.get 0 (by simp)
    have hat0 : NdAt w g0 o0 s0.h sv0 := fun i hi => by have := hat i hi; simpa using this
    have HAT := Lib.hid hat0
    have HOK := Lib.hid hok
    obtain ⟨mn, hmn⟩ := Int.eq_ofNat_of_zero_le hn1
    have hmx : h.max = -1 ∨ (mn : Int) ≤ h.max := by rw [← hmn]; exact HMX.out hk
    rw [hmn] at n7 HF hn2
    have HPA := Lib.hid (fun W (hW : Ext w W) => rounds_lead (x := x) (m := m) s0 (HIH.out s0 (by simp)) (lfM_ok s m) hnw hnn hss (.pointer (some ⟨ge, 0, none⟩)) sv sv0 (.slice A nw c) g0 o0 mn h.max back p W (HSUB.out s0 (by simp)) (HE.out.ext hW) (HS.out.ext hW) (HAT.out.ext hW) (HOK.out.ext hW) (HT.out.ext hW) (HRD.out.ext hW) HP.out (by omega) hmx (by omega))
    rw [hk] at n0
    clear hk hat hat0 hok hmn hmx
    simp only [List.length_cons, List.length_nil] at n5
    go_upto_region 24 with fail
    have ce' := cell_plus ce
    have ct' := cell_plus ct
    have cb' := cell_plus cb
    have n5' := cell_plus n5
    have n7' := cell_plus n7
    have n8' := cell_plus n8
    refine wp_region_plus_tail 16 (by kernel_rfl) (by kernel_rfl) ?_
    simp only [List.take_succ_cons, List.take_zero, List.drop_succ_cons, List.drop_zero]
    iterate 16 (go_big_quiet_step (fail))
    refine wpQuiet_nil ?_
    intro y
    have hx3y := HX3.out.trans (plus_ext w3 y)
    have HPY := Lib.hid (HPA.out _ hx3y)
    rw [← HF.out] at HPY
    have hsy := hx3y.size
    clear ce' ct' cb' n5' n7' n8' ce ct cb cto n0 n5 n7 n8
    go_wp2_with (go_at_call 42; refine HPY.out.mono ?_; rintro e w6 ⟨v6, rfl, hx6, hr6, hfrom6⟩)
    go_ret
    exact ⟨_, rfl, hx3y.trans hx6, hr6, hfrom6.elim .inl (fun h => .inr (fun g hg => Nat.le_trans hsy (h g hg)))⟩
theorem lead_any (hnw : s.size / 64 < nw) (hnn : nw ≤ 100000000) (hss : s.size ≤ 1000000) (hm : m.length ≤ 10000000) : ∀ n : Nd, smallN n → LeadOf x s m (lfM s m) nw n :=
  Nd.ind fun h subs ih hsm => lead_one h subs (fun n hn => ih n hn (smallL_mem hsm.2 n hn)) hnw hnn hss hm (by have := hsm.1; omega)
end

end Go.Proofs.YtgfknlkpdiejgaaDoor
