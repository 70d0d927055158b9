/- A region that draws its order and in whose midst an operation writes: what that one waits for is taken first; the others after it come one behind the other. No condition. -/
import Derived.Test.YtkcgbdoplhgbmaaDoorInv
import Derived.OrdersHeld
namespace Go.Proofs.YtkcgbdoplhgbmaaDoor
open Go Go.RowKit

section
variable {P : Program} {ops : Array Oper} {md : Region.Mode} {Q : Exit → Act → World → Prop} {S : World → Prop} {m : Nat}

/-- As wpAny, and S holds behind each operation ahead of number m. -/
def wpAnyM (P : Program) (md : Region.Mode) (ops : Array Oper) (Q : Exit → Act → World → Prop) (S : World → Prop) (m : Nat) : Nat → Array Bool → Act → World → Prop
  | 0, listed, a, w => Region.ready md ops listed = [] ∧ Q .normal a w
  | f + 1, listed, a, w => (Region.ready md ops listed = [] → Q .normal a w) ∧
      ∀ i ∈ Region.ready md ops listed, wpOp P ops Q i (fun a' w' => if i = m then wpAny P md ops Q f (listed.setIfInBounds i true) a' w' else S w' ∧ wpAnyM P md ops Q S m f (listed.setIfInBounds i true) a' w') a w
theorem wpAny_of_mid : ∀ (f : Nat) (listed : Array Bool) (a : Act) (w : World), wpAnyM P md ops Q S m f listed a w → wpAny P md ops Q f listed a w
  | 0, _, _, _, h => h
  | f + 1, _, _, _, h => ⟨h.1, fun i hi => wpOp_mono (fun a' w' h' => by
      by_cases he : i = m
      · rw [if_pos he] at h'; exact h'
      · rw [if_neg he] at h'; exact wpAny_of_mid f _ a' w' h'.2) (h.2 i hi)⟩

/-- Each of cs waits for i or for one of cs. -/
def waitB (md : Region.Mode) (ops : Array Oper) (i : Nat) (cs : List Nat) : Bool := cs.all fun c => (depsL md ops c).any fun d => d == i || cs.contains d
theorem wait_not {i j : Nat} {cs : List Nat} {listed : Array Bool} (hw : waitB md ops i cs = true) (hj : j ∈ Region.ready md ops listed) (hi : listed.getD i true = false) (hcs : ∀ c ∈ cs, listed.getD c true = false) : j ∉ cs := fun hm => by
  have h1 := List.all_eq_true.1 hw j hm
  obtain ⟨d, hd, h2⟩ := List.any_eq_true.1 h1
  obtain ⟨_, o, ho, hall⟩ := mem_ready.1 hj
  unfold depsL at hd
  rw [ho] at hd
  obtain ⟨e, he, rfl⟩ := List.mem_map.1 hd
  obtain ⟨he1, he2⟩ := List.mem_filter.1 he
  have h3 := hall e (by simpa using he1) he2
  rcases Bool.or_eq_true _ _ ▸ h2 with h2 | h2
  · rw [beq_iff_eq] at h2
    rw [h2, getD_both hi] at h3
    cases h3
  · rw [getD_both (hcs _ (by simpa using h2))] at h3
    cases h3
theorem wpAnyM_first {i : Nat} {oi : Oper} {v : Value} {cs : List Nat} (hi : ops[i]? = some oi) (hsel : ∀ (j : Nat) (o : Oper) cs b, ops[j]? = some o → o.op ≠ .select cs b)
    (hQ : ∀ c a w, Q (.panic c) (a.put oi.dst v) w → Q (.panic c) a w) (hw : waitB md ops i cs = true) (hm : m ∈ cs) (him : i ∉ cs) :
    ∀ (f : Nat) (listed : Array Bool) (a : Act) (w : World),
      (∀ j oj, ops[j]? = some oj → j ≠ i → listed.getD j true = false → (∀ e ∈ oj.after, Region.binds md e = true → e.on ≠ i) → oi.apart ops oj = true) →
      i ∈ Region.ready md ops listed → (∀ c ∈ cs, listed.getD c true = false) → YieldsIf P ops S oi v a → S w →
      wpAnyM P md ops Q S m f (listed.setIfInBounds i true) (a.put oi.dst v) w → wpAnyM P md ops Q S m (f + 1) listed a w := by
  have hne : i ≠ m := fun e => him (e ▸ hm)
  intro f
  induction f with
  | zero =>
    intro listed a w _ hr hcs hy hS H
    refine ⟨fun h => (by rw [h] at hr; cases hr), fun j hj => ?_⟩
    by_cases hji : j = i
    · subst hji
      exact hy.wpOp hi hS (by rw [if_neg hne]; exact ⟨hS, H⟩)
    · have := ready_mono hj hji
      rw [H.1] at this
      cases this
  | succ f ih =>
    intro listed a w hfree hr hcs hy hS H
    refine ⟨fun h => (by rw [h] at hr; cases hr), fun j hj => ?_⟩
    by_cases hji : j = i
    · subst hji
      exact hy.wpOp hi hS (by rw [if_neg hne]; exact ⟨hS, H⟩)
    · have h1 := H.2 j (ready_mono hj hji)
      obtain ⟨hjun, oj, hoj, hall⟩ := mem_ready.1 hj
      have hun := (mem_ready.1 hr).1
      have hjc := wait_not hw hj hun hcs
      have hjm : j ≠ m := fun e => hjc (e ▸ hm)
      have hnot : ∀ e ∈ oj.after, Region.binds md e = true → e.on ≠ i := fun e he hb heq => by
        have h1 := hall e he hb
        rw [heq, getD_both hun] at h1
        cases h1
      have hap := hfree j oj hoj hji hjun hnot
      have h2 := wpOp_putIf hoj hap (fun cs b => hsel i oi cs b hi) (fun cs b => hsel j oj cs b hoj) hQ hy h1
      refine wpOp_mono (fun a' w' h3 => ?_) h2
      rw [if_neg hjm]
      have h4 := h3.2
      rw [if_neg hjm] at h4
      refine ⟨h4.1, ih (listed.setIfInBounds j true) a' w' (fun k ok hk hki hk2 hno => ?_) (ready_mono hr (Ne.symm hji)) (fun c hc => ?_) h3.1 h4.1 ?_⟩
      · refine hfree k ok hk hki ?_ hno
        by_cases hjk : j = k
        · subst hjk; exact hjun
        · rw [getD_set_ne true hjk] at hk2; exact hk2
      · rw [getD_set_ne true (fun e => by subst e; exact hjc hc)]
        exact hcs c hc
      · rw [Array.setIfInBounds_comm _ _ hji]
        exact h4.2
/-- Take number i first; cs: those from it to number m that wait for it. -/
theorem wpAnyM_take {i : Nat} {oi : Oper} {v : Value} {f : Nat} {listed : Array Bool} {a : Act} {w : World} (cs : List Nat) (hi : ops[i]? = some oi)
    (hs : Region.noSelect ops = true) (hf : Region.free md ops listed i = true) (hr : (Region.ready md ops listed).contains i = true)
    (hw : (waitB md ops i cs && cs.contains m && !cs.contains i && cs.all fun c => !listed.getD c true) = true)
    (hQ : ∀ c a w, Q (.panic c) (a.put oi.dst v) w → Q (.panic c) a w) (hS : S w) (hy : YieldsIf P ops S oi v a)
    (h : wpAnyM P md ops Q S m f (listed.setIfInBounds i true) (a.put oi.dst v) w) : wpAnyM P md ops Q S m (f + 1) listed a w := by
  simp only [Bool.and_eq_true, Bool.not_eq_true', List.all_eq_true] at hw
  obtain ⟨⟨⟨h1, h2⟩, h3⟩, h4⟩ := hw
  exact wpAnyM_first hi (Region.noSelect_spec hs) hQ h1 (by simpa using h2) (by simpa using h3) f listed a w (Region.free_spec hi hf) (by simpa using hr) h4 hy hS h
theorem wpAnyM_firstP {i : Nat} {oi : Oper} {v : Value} (hi : ops[i]? = some oi) (hsel : ∀ (j : Nat) (o : Oper) cs b, ops[j]? = some o → o.op ≠ .select cs b)
    (hQ : ∀ c a w, Q (.panic c) (a.put oi.dst v) w → Q (.panic c) a w) (hne : i ≠ m) :
    ∀ (f : Nat) (listed : Array Bool) (a : Act) (w : World),
      (∀ j oj, ops[j]? = some oj → j ≠ i → listed.getD j true = false → (∀ e ∈ oj.after, Region.binds md e = true → e.on ≠ i) → oi.apart ops oj = true) →
      i ∈ Region.ready md ops listed → Yields P ops oi v a → S w →
      wpAnyM P md ops Q S m f (listed.setIfInBounds i true) (a.put oi.dst v) w → wpAnyM P md ops Q S m (f + 1) listed a w := by
  intro f
  induction f with
  | zero =>
    intro listed a w _ hr hy hS H
    refine ⟨fun h => (by rw [h] at hr; cases hr), fun j hj => ?_⟩
    by_cases hji : j = i
    · subst hji
      exact hy.wpOp hi (by rw [if_neg hne]; exact ⟨hS, H⟩)
    · have := ready_mono hj hji
      rw [H.1] at this
      cases this
  | succ f ih =>
    intro listed a w hfree hr hy hS H
    refine ⟨fun h => (by rw [h] at hr; cases hr), fun j hj => ?_⟩
    by_cases hji : j = i
    · subst hji
      exact hy.wpOp hi (by rw [if_neg hne]; exact ⟨hS, H⟩)
    · have h1 := H.2 j (ready_mono hj hji)
      obtain ⟨hjun, oj, hoj, hall⟩ := mem_ready.1 hj
      have hun := (mem_ready.1 hr).1
      have hnot : ∀ e ∈ oj.after, Region.binds md e = true → e.on ≠ i := fun e he hb heq => by
        have h1 := hall e he hb
        rw [heq, getD_both hun] at h1
        cases h1
      have hap := hfree j oj hoj hji hjun hnot
      have h2 := wpOp_put hoj hap (fun cs b => hsel i oi cs b hi) (fun cs b => hsel j oj cs b hoj) hQ hy h1
      have hfree2 : ∀ k ok, ops[k]? = some ok → k ≠ i → (listed.setIfInBounds j true).getD k true = false → (∀ e ∈ ok.after, Region.binds md e = true → e.on ≠ i) → oi.apart ops ok = true := fun k ok hk hki hk2 hno => by
        refine hfree k ok hk hki ?_ hno
        by_cases hjk : j = k
        · subst hjk; exact hjun
        · rw [getD_set_ne true hjk] at hk2; exact hk2
      refine wpOp_mono (fun a' w' h3 => ?_) h2
      have h4 := h3.2
      by_cases hjm : j = m
      · rw [if_pos hjm] at h4 ⊢
        refine wpAny_first hi hsel hQ f _ a' w' hfree2 (ready_mono hr (Ne.symm hji)) h3.1 ?_
        rw [Array.setIfInBounds_comm _ _ hji]
        exact h4
      · rw [if_neg hjm] at h4 ⊢
        refine ⟨h4.1, ih (listed.setIfInBounds j true) a' w' hfree2 (ready_mono hr (Ne.symm hji)) h3.1 h4.1 ?_⟩
        rw [Array.setIfInBounds_comm _ _ hji]
        exact h4.2
/-- Take number i first, which does not look at the world. -/
theorem wpAnyM_pure {i : Nat} {oi : Oper} {v : Value} {f : Nat} {listed : Array Bool} {a : Act} {w : World} (hi : ops[i]? = some oi)
    (hs : Region.noSelect ops = true) (hf : Region.free md ops listed i = true) (hr : (Region.ready md ops listed).contains i = true) (hne : i ≠ m)
    (hQ : ∀ c a w, Q (.panic c) (a.put oi.dst v) w → Q (.panic c) a w) (hS : S w) (hg : oi.guard = none) (hy : ∀ w, (execOp a.eval oi).run P w = .ok (.value v) w)
    (h : wpAnyM P md ops Q S m f (listed.setIfInBounds i true) (a.put oi.dst v) w) : wpAnyM P md ops Q S m (f + 1) listed a w :=
  wpAnyM_firstP hi (Region.noSelect_spec hs) hQ hne f listed a w (Region.free_spec hi hf) (by simpa using hr) (.inl ⟨by simp [Region.wanted, hg], hy⟩) hS h
/-- The one that comes up next, ahead of number m. -/
theorem wpAnyM_step {i : Nat} {o : Oper} {f : Nat} {listed : Array Bool} {a : Act} {w : World} (hr : Region.ready md ops listed = [i]) (ho : ops[i]? = some o) (hne : i ≠ m)
    (h : wpList P ops (stepQ fun a' w' => S w' ∧ wpAnyM P md ops Q S m f (listed.setIfInBounds i true) a' w') [o] a w) : wpAnyM P md ops Q S m (f + 1) listed a w := by
  refine ⟨fun h0 => (by rw [hr] at h0; cases h0), fun j hj => ?_⟩
  rw [hr, List.mem_singleton] at hj
  subst hj
  exact wpOp_of_list ho (fun a' w' h1 => by rw [if_neg hne]; exact h1) h
/-- Number m and one behind it. -/
theorem wpAnyM_last {t : Nat} {o o' : Oper} {f : Nat} {listed : Array Bool} {a : Act} {w : World} (hr : Region.ready md ops listed = [m]) (ho : ops[m]? = some o) (hr2 : Region.ready md ops (listed.setIfInBounds m true) = [t]) (ho' : ops[t]? = some o') (hr3 : Region.ready md ops ((listed.setIfInBounds m true).setIfInBounds t true) = [])
    (h : wpList P ops (stepQ fun a' w' => wpList P ops Q [o'] a' w') [o] a w) : wpAnyM P md ops Q S m (f + 2) listed a w := by
  refine ⟨fun h0 => (by rw [hr] at h0; cases h0), fun j hj => ?_⟩
  rw [hr, List.mem_singleton] at hj
  subst hj
  refine wpOp_of_list ho (fun a' w' h1 => ?_) h
  rw [if_pos rfl]
  refine ⟨fun h0 => (by rw [hr2] at h0; cases h0), fun j hj => ?_⟩
  rw [hr2, List.mem_singleton] at hj
  subst hj
  refine wpOp_of_last ho' (fun a'' w'' h2 => ?_) h1
  cases f with
  | zero => exact ⟨hr3, h2⟩
  | succ f => exact ⟨fun _ => h2, by rw [hr3]; simp⟩
/-- Number m and two behind it. -/
theorem wpAnyM_last3 {t u : Nat} {o o' o'' : Oper} {f : Nat} {listed : Array Bool} {a : Act} {w : World} (hr : Region.ready md ops listed = [m]) (ho : ops[m]? = some o) (hr2 : Region.ready md ops (listed.setIfInBounds m true) = [t]) (ho' : ops[t]? = some o')
    (hr3 : Region.ready md ops ((listed.setIfInBounds m true).setIfInBounds t true) = [u]) (ho'' : ops[u]? = some o'') (hr4 : Region.ready md ops (((listed.setIfInBounds m true).setIfInBounds t true).setIfInBounds u true) = [])
    (h : wpList P ops (stepQ fun a' w' => wpList P ops (stepQ fun a'' w'' => wpList P ops Q [o''] a'' w'') [o'] a' w') [o] a w) : wpAnyM P md ops Q S m (f + 3) listed a w := by
  refine ⟨fun h0 => (by rw [hr] at h0; cases h0), fun j hj => ?_⟩
  rw [hr, List.mem_singleton] at hj
  subst hj
  refine wpOp_of_list ho (fun a1 w1 h1 => ?_) h
  rw [if_pos rfl]
  refine ⟨fun h0 => (by rw [hr2] at h0; cases h0), fun j hj => ?_⟩
  rw [hr2, List.mem_singleton] at hj
  subst hj
  refine wpOp_of_list ho' (fun a2 w2 h2 => ?_) h1
  refine ⟨fun h0 => (by rw [hr3] at h0; cases h0), fun j hj => ?_⟩
  rw [hr3, List.mem_singleton] at hj
  subst hj
  refine wpOp_of_last ho'' (fun a3 w3 h3 => ?_) h2
  cases f with
  | zero => exact ⟨hr4, h3⟩
  | succ f => exact ⟨fun _ => h3, by rw [hr4]; simp⟩
/-- The beginning. -/
theorem wp_region_mid {id : Nat} {a : Act} {w : World} (S : World → Prop) (m : Nat) (hm : P.follows .mixedOrders = true)
    (h : wpAnyM P .any ops Q S m ops.size (Array.replicate ops.size false) a w.drew) : (Code.region id ops true).wp P Q a w :=
  wp_region_any hm (wpAny_of_mid _ _ _ _ h)
/-- What an operation without a guard answers in every world of S. -/
theorem yieldsIf_value {o : Oper} {v : Value} {a : Act} (hg : o.guard = none) (h : ∀ w, S w → (execOp a.eval o).run P w = .ok (.value v) w) : YieldsIf P ops S o v a := .inl ⟨by simp [Region.wanted, hg], h⟩
theorem stepQ_ok {K : Act → World → Prop} {a : Act} {w : World} (h : K a w) : stepQ K .normal a w := h
theorem stepQ_end {K : Act → World → Prop} {ops : Array Oper} {a : Act} {w : World} (h : K a w) : wpList P ops (stepQ K) [] a w := h
end

end Go.Proofs.YtkcgbdoplhgbmaaDoor
