/- A region that draws its order: each operation leaves a value of which something is known that lasts as long as the world only grows; the last operation may write. No condition. -/
import Derived.Test.YtkcgbdoplhgbmaaDoorLib
import Derived.StillTailTactics
namespace Go.Proofs.YtkcgbdoplhgbmaaDoor
open Go Go.RowKit

section
variable {P : Program} {ops : Array Oper} {md : Region.Mode} {Q : Exit → Act → World → Prop} {w0 : World}

def stepQ (K : Act → World → Prop) : Exit → Act → World → Prop
  | .normal, a, w => K a w
  | _, _, _ => False
def updN (u : Nat → Value) (i : Nat) (v : Value) : Nat → Value := fun j => if j = i then v else u j
def depsL (md : Region.Mode) (ops : Array Oper) (i : Nat) : List Nat := match ops[i]? with | none => [] | some o => (o.after.toList.filter (Region.binds md ·)).map (·.on)

theorem wp_stepQ {o : Oper} {a : Act} {w : World} {K K' : Act → World → Prop} (hK : ∀ a w, K a w → K' a w) (h : o.wp P a w (wpList P ops (stepQ K) []) (stepQ K)) : o.wp P a w K' Q := by
  unfold Oper.wp at *
  generalize (execOp a.eval o).run P w = r at *
  cases r with
  | ok n w' =>
    cases n <;> simp only [Oper.upon] at h ⊢ <;>
      first
        | exact hK _ _ h
        | exact Rows.mono h fun v w'' he => hK _ _ he
        | (refine Calls.mono h fun e w'' he => ?_
           cases e with
           | returned v => exact hK _ _ he
           | panicked c => exact he.elim
           | outgrown => obtain ⟨_, _, he⟩ := he; exact he.elim)
  | halt x w' =>
    cases x <;> simp only [Oper.upon] at h ⊢
    all_goals exact h.elim
theorem wpOp_of_list {i : Nat} {o : Oper} {a : Act} {w : World} {K K' : Act → World → Prop} (ho : ops[i]? = some o) (hK : ∀ a w, K a w → K' a w) (h : wpList P ops (stepQ K) [o] a w) : wpOp P ops Q i K' a w := by
  unfold wpOp
  simp only [ho]
  unfold wpList at h
  by_cases hw : Region.wanted o (yielded ops a.tmps) = true
  · rw [if_pos hw] at h ⊢
    rcases h with h | ⟨_, _, _, h⟩
    · exact .inl (wp_stepQ hK h)
    · exact h.elim
  · rw [if_neg hw] at h ⊢
    exact hK _ _ h
theorem wpOp_of_last {i : Nat} {o : Oper} {a : Act} {w : World} {K' : Act → World → Prop} (ho : ops[i]? = some o) (hK : ∀ a w, Q .normal a w → K' a w) (h : wpList P ops Q [o] a w) : wpOp P ops Q i K' a w := by
  unfold wpOp
  simp only [ho]
  unfold wpList at h
  by_cases hw : Region.wanted o (yielded ops a.tmps) = true
  · rw [if_pos hw] at h ⊢
    exact h.imp (Oper.wp_mono hK) id
  · rw [if_neg hw] at h ⊢
    exact hK _ _ h

def cntF (l : List Bool) : Nat := (l.filter (fun b => !b)).length
theorem cntF_set : ∀ (l : List Bool) (i : Nat), l[i]? = some false → cntF (l.set i true) + 1 = cntF l
  | [], i, h => by cases h
  | b :: l, 0, h => by
    simp only [List.getElem?_cons_zero, Option.some.injEq] at h
    subst h
    simp [cntF]
  | b :: l, i + 1, h => by
    have ih := cntF_set l i (by simpa using h)
    cases b <;> simp [cntF] at ih ⊢ <;> omega
theorem cntF_pos : ∀ (l : List Bool), cntF l ≠ 0 → ∃ i : Nat, l[i]? = some false
  | [], h => absurd rfl h
  | false :: l, _ => ⟨0, rfl⟩
  | true :: l, h => by
    obtain ⟨i, hi⟩ := cntF_pos l (fun h0 => h (by simpa [cntF] using h0))
    exact ⟨i + 1, hi⟩
theorem cntF_zero : ∀ (l : List Bool), cntF l = 0 → ∀ i : Nat, l[i]? = some false → False
  | [], _, _, h => by cases h
  | false :: l, h, _, _ => by simp [cntF] at h
  | true :: l, h, 0, h2 => by simp at h2
  | true :: l, h, i + 1, h2 => cntF_zero l (by simpa [cntF] using h) i (by simpa using h2)
theorem getD_false_iff {listed : Array Bool} {i : Nat} : listed.getD i true = false ↔ listed.toList[i]? = some false := by
  rw [Array.getD_eq_getD_getElem?, Array.getElem?_toList]
  cases h : listed[i]? with
  | none => simp
  | some b => simp

theorem ready_none {listed : Array Bool} (h : ∀ i, i < ops.size → listed.getD i true = true) : Region.ready md ops listed = [] := by
  refine List.eq_nil_iff_forall_not_mem.2 fun i hi => ?_
  obtain ⟨h1, o, ho, _⟩ := mem_ready.1 hi
  rw [h i (Array.getElem?_eq_some_iff.1 ho).1] at h1
  cases h1
theorem ready_some {listed : Array Bool} (hs : listed.size = ops.size) (hback : (List.range ops.size).all (fun i => (depsL md ops i).all (decide <| · < i)) = true) : ∀ i, listed.getD i true = false → Region.ready md ops listed ≠ [] := fun i => by
  induction i using Nat.strongRecOn with
  | ind i ih =>
    intro h hr
    have hi : i < ops.size := by
      rw [← hs]
      have := (List.getElem?_eq_some_iff.1 (getD_false_iff.1 h)).1
      simpa using this
    have hnot : i ∉ Region.ready md ops listed := by rw [hr]; simp
    apply hnot
    refine mem_ready.2 ⟨h, ops[i], Array.getElem?_eq_getElem hi, fun e he hb => ?_⟩
    cases hl : listed.getD e.on false with
    | true => rfl
    | false =>
      exfalso
      have hd : e.on ∈ depsL md ops i := by
        unfold depsL
        rw [Array.getElem?_eq_getElem hi]
        exact List.mem_map.2 ⟨e, List.mem_filter.2 ⟨by simpa using he, hb⟩, rfl⟩
      have hlt : e.on < i := by
        have := (List.all_eq_true.1 hback) i (List.mem_range.2 hi)
        simpa using (List.all_eq_true.1 this) _ hd
      exact ih e.on hlt (getD_in (by omega) hl) hr

theorem wpAny_inv (n : Nat) (hn0 : n ≤ ops.size) (T : (Nat → Value) → Act) (Post : Nat → Value → World → Prop) (stable : ∀ i v W W', Ext W W' → Post i v W → Post i v W')
    (hback : (List.range ops.size).all (fun i => (depsL md ops i).all (decide <| · < i)) = true)
    (hlast : (List.range ops.size).all (fun i => decide (i < n) || (decide (i = n) && decide (ops.size = n + 1) && (List.range n).all fun j => (depsL md ops n).contains j)) = true)
    (step : ∀ i o, i < n → ops[i]? = some o → ∀ u W, Ext w0 W → (∀ j ∈ depsL md ops i, Post j (u j) W) → wpList P ops (stepQ fun a' W' => Ext W W' ∧ ∃ v, a' = T (updN u i v) ∧ Post i v W') [o] (T u) W)
    (done : ∀ u W, Ext w0 W → (∀ j, j < n → Post j (u j) W) → wpList P ops Q (ops.toList.drop n) (T u) W) :
    ∀ (f : Nat) (listed : Array Bool) (u : Nat → Value) (W : World), Ext w0 W → listed.size = ops.size → cntF listed.toList = f →
      (∀ j, j < n → listed.getD j false = true → Post j (u j) W) → (∀ j, n ≤ j → j < ops.size → listed.getD j true = false) → wpAny P md ops Q f listed (T u) W := fun f => by
  have hone : ∀ i, i < ops.size → i < n ∨ (i = n ∧ ops.size = n + 1 ∧ ∀ j, j < n → j ∈ depsL md ops n) := fun i hi => by
    have := (List.all_eq_true.1 hlast) i (List.mem_range.2 hi)
    simp only [Bool.or_eq_true, decide_eq_true_eq, Bool.and_eq_true, List.all_eq_true, List.mem_range] at this
    rcases this with h | ⟨⟨h1, h2⟩, h3⟩
    · exact .inl h
    · exact .inr ⟨h1, h2, fun j hj => by simpa using h3 j hj⟩
  induction f with
  | zero =>
    intro listed u W hx hs hc hp hn
    have hall : ∀ i, i < ops.size → listed.getD i true = true := fun i hi => by
      cases h : listed.getD i true with
      | true => rfl
      | false => exact (cntF_zero _ hc i (getD_false_iff.1 h)).elim
    have hle : ops.size ≤ n := by
      rcases Nat.lt_or_ge n ops.size with h | h
      · have h1 := hn n (Nat.le_refl _) h
        rw [hall n h] at h1
        cases h1
      · exact h
    refine ⟨ready_none hall, ?_⟩
    have hd := done u W hx (fun j hj => hp j hj (by
      have := hall j (by omega)
      rw [Array.getD_eq_getD_getElem?, Array.getElem?_eq_getElem (by omega)] at this ⊢
      exact this))
    rw [List.drop_of_length_le (by simpa using hle)] at hd
    exact hd
  | succ f ih =>
    intro listed u W hx hs hc hp hn
    refine ⟨fun hr => ?_, fun i hi => ?_⟩
    · obtain ⟨i, h⟩ := cntF_pos _ (by rw [hc]; exact Nat.succ_ne_zero f)
      exact absurd hr (ready_some hs hback i (getD_false_iff.2 h))
    · obtain ⟨hun, o, ho, hdeps⟩ := mem_ready.1 hi
      have hi' := (Array.getElem?_eq_some_iff.1 ho).1
      have hdl : ∀ j ∈ depsL md ops i, listed.getD j false = true := fun j hj => by
        unfold depsL at hj
        rw [ho] at hj
        obtain ⟨e, he, rfl⟩ := List.mem_map.1 hj
        obtain ⟨he1, he2⟩ := List.mem_filter.1 he
        exact hdeps e (by simpa using he1) he2
      have hdlt : ∀ j ∈ depsL md ops i, j < i := fun j hj => by
        have := (List.all_eq_true.1 hback) i (List.mem_range.2 hi')
        simpa using (List.all_eq_true.1 this) _ hj
      rcases hone i hi' with hlt | ⟨rfl, hsz, hall⟩
      · refine wpOp_of_list ho ?_ (step i o hlt ho u W hx (fun j hj => hp j (by have := hdlt j hj; omega) (hdl j hj)))
        rintro a' W' ⟨hx', v, rfl, hv⟩
        refine ih (listed.setIfInBounds i true) (updN u i v) W' (hx.trans hx') (by simpa using hs) ?_ (fun j hj hl => ?_) (fun j hj hj2 => ?_)
        · rw [Array.toList_setIfInBounds]
          have := cntF_set listed.toList i (getD_false_iff.1 hun)
          omega
        · unfold updN
          by_cases hji : j = i
          · rw [if_pos hji, hji]; exact hv
          · rw [if_neg hji]
            rw [getD_set_ne false (fun e => hji e.symm)] at hl
            exact stable j _ W W' hx' (hp j hj hl)
        · rw [getD_set_ne true (by omega)]
          exact hn j hj hj2
      · have hd := done u W hx (fun j hj => hp j hj (hdl j (hall j hj)))
        have hdrop : ops.toList.drop i = [o] := by
          rw [List.drop_eq_getElem_cons (by simpa using hi'), List.drop_of_length_le (by simp; omega)]
          have := (Array.getElem?_eq_some_iff.1 ho).2
          simpa using this
        rw [hdrop] at hd
        refine wpOp_of_last ho (fun a' W' hq => ?_) hd
        have hr : Region.ready md ops (listed.setIfInBounds i true) = [] := ready_none fun j hj => by
          rcases Nat.lt_or_ge j i with h | h
          · rw [getD_set_ne true (by omega)]
            have := hdl j (hall j h)
            rw [Array.getD_eq_getD_getElem?, Array.getElem?_eq_getElem (by omega)] at this ⊢
            exact this
          · have : j = i := by omega
            subst this
            simp [hs, hj]
        cases f with
        | zero => exact ⟨hr, hq⟩
        | succ f => exact ⟨fun _ => hq, by rw [hr]; simp⟩

/-- The beginning. -/
theorem wp_region_inv {id : Nat} {a : Act} {w : World} (n : Nat) (T : (Nat → Value) → Act) (Post : Nat → Value → World → Prop) (u0 : Nat → Value) (hT : a = T u0) (hm : P.follows .mixedOrders = true) (hn0 : n ≤ ops.size) (stable : ∀ i v W W', Ext W W' → Post i v W → Post i v W')
    (hback : (List.range ops.size).all (fun i => (depsL .any ops i).all (decide <| · < i)) = true)
    (hlast : (List.range ops.size).all (fun i => decide (i < n) || (decide (i = n) && decide (ops.size = n + 1) && (List.range n).all fun j => (depsL .any ops n).contains j)) = true)
    (step : ∀ i o, i < n → ops[i]? = some o → ∀ u W, Ext w W → (∀ j ∈ depsL .any ops i, Post j (u j) W) → wpList P ops (stepQ fun a' W' => Ext W W' ∧ ∃ v, a' = T (updN u i v) ∧ Post i v W') [o] (T u) W)
    (done : ∀ u W, Ext w W → (∀ j, j < n → Post j (u j) W) → wpList P ops Q (ops.toList.drop n) (T u) W) : (Code.region id ops true).wp P Q a w := by
  refine wp_region_any hm ?_
  rw [hT]
  refine wpAny_inv (w0 := w) n hn0 T Post stable hback hlast step done ops.size _ u0 _ (Ext.refl w).drew (by simp) ?_ (fun j _ hl => ?_) (fun j _ hj => ?_)
  · rw [Array.toList_replicate]
    unfold cntF
    rw [List.filter_replicate]
    simp
  · rw [getD_replicate_false] at hl
    cases hl
  · exact getD_in (by simpa using hj) (getD_replicate_false _ _)

end
end Go.Proofs.YtkcgbdoplhgbmaaDoor
