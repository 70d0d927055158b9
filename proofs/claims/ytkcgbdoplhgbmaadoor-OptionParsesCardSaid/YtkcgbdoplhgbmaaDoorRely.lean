/- A region that draws its order, where operations that are quiet in every extension of the world at hand are taken first, and the others (allocs, stores) are walked with growth in between. -/
import Derived.Test.YtkcgbdoplhgbmaaDoorLib
import Derived.OrdersHeld
import Derived.Deep.Quiet
import Derived.StillTailTactics
import Derived.Laws.Rows
namespace Go.Proofs.YtkcgbdoplhgbmaaDoor
open Go Go.RowKit

section
variable {P : Program} {ops : Array Oper} {md : Region.Mode} {Q : Exit → Act → World → Prop} {w0 : World}

def wpAnyR (P : Program) (md : Region.Mode) (ops : Array Oper) (Q : Exit → Act → World → Prop) (w0 : World) : Nat → Array Bool → Act → World → Prop
  | 0, listed, a, w => ∀ w', Ext w w' → Region.ready md ops listed = [] ∧ Q .normal a w'
  | f + 1, listed, a, w => ∀ w', Ext w w' → (Region.ready md ops listed = [] → Q .normal a w') ∧
      ∀ i ∈ Region.ready md ops listed, wpOp P ops Q i (fun a' w'' => Ext w0 w'' ∧ wpAnyR P md ops Q w0 f (listed.setIfInBounds i true) a' w'') a w'

theorem wpAny_of_rely : ∀ (f : Nat) (listed : Array Bool) (a : Act) (w : World), wpAnyR P md ops Q w0 f listed a w → wpAny P md ops Q f listed a w
  | 0, _, _, w, h => h w (Ext.refl w)
  | f + 1, _, _, w, h => ⟨(h w (Ext.refl w)).1, fun i hi => wpOp_mono (fun a' w' h' => wpAny_of_rely f _ a' w' h'.2) ((h w (Ext.refl w)).2 i hi)⟩
theorem wpAnyR_ext : ∀ (f : Nat) (listed : Array Bool) (a : Act) (w w' : World), Ext w w' → wpAnyR P md ops Q w0 f listed a w → wpAnyR P md ops Q w0 f listed a w'
  | 0, _, _, _, _, hx, h => fun w'' hw => h w'' (hx.trans hw)
  | _ + 1, _, _, _, _, hx, h => fun w'' hw => h w'' (hx.trans hw)

/-- An operation apart from oi runs alike whether oi's value lies in its temporary or not, and what holds of oi's reading still holds behind it. -/
theorem wpOp_keeps {Y : Act → Prop} {j : Nat} {oi oj : Oper} {v : Value} (hj : ops[j]? = some oj) (hap : oi.apart ops oj = true) (hsj : ∀ cs b, oj.op ≠ .select cs b)
    (hQ : ∀ c a w, Q (.panic c) (a.put oi.dst v) w → Q (.panic c) a w) (keep : ∀ a u, Y a → Y (a.put oj.dst u)) (keepD : ∀ (a : Act) d, Y a → Y { a with defers := d :: a.defers })
    {K : Act → World → Prop} {a : Act} {w : World} (hy : Y a) (h : wpOp P ops Q j K (a.put oi.dst v) w) :
    wpOp P ops Q j (fun a' w' => Y a' ∧ K (a'.put oi.dst v) w') a w := by
  obtain ⟨r1, r2, _⟩ := Oper.apart_spec hap
  have hex := execOp_put oj hsj a oi.dst v r1
  have hwt := wanted_put oj a oi.dst v r1
  unfold wpOp at h ⊢
  simp only [hj] at h ⊢
  rw [hwt] at h
  by_cases hw : Region.wanted oj (yielded ops a.tmps) = true
  · rw [if_pos hw] at h ⊢
    rcases h with h | ⟨ha, hl⟩
    · left
      unfold Oper.wp at h ⊢
      rw [hex] at h
      cases hr : (execOp a.eval oj).run P w with
      | halt x w' =>
        rw [hr] at h
        cases x <;> simp only [Oper.upon] at h ⊢
        exact hQ _ _ _ h
      | ok n w' =>
        rw [hr] at h
        cases n <;> simp only [Oper.upon] at h ⊢
        · exact ⟨keep _ _ hy, by rw [← Act.put_comm a v _ r2]; exact h⟩
        all_goals first
          | exact ⟨keep _ _ hy, by rw [← Act.put_comm a v _ r2]; exact h⟩
          | exact Rows.mono h fun u w'' he => ⟨keep _ _ hy, by rw [← Act.put_comm a v u r2]; exact he⟩
          | (refine ⟨keep _ _ (keepD _ _ hy), ?_⟩; rw [← Act.put_comm _ v _ r2, ← Act.put_defers]; exact h)
          | (refine Calls.mono h fun e w'' he => ?_
             cases e with
             | returned u => exact ⟨keep _ _ hy, by rw [← Act.put_comm a v u r2]; exact he⟩
             | panicked c => exact hQ _ _ _ he
             | outgrown => exact he)
    · right
      refine ⟨?_, hl⟩
      unfold Oper.asks at ha ⊢
      rw [hex] at ha
      exact ha
  · rw [if_neg hw] at h ⊢
    exact ⟨keep _ _ hy, by rw [← Act.put_comm a v _ r2]; exact h⟩

/-- In state a, from every world that extends w0, operation o leaves v, and a world that extends the one it ran in. -/
def YieldsR (P : Program) (ops : Array Oper) (w0 : World) (o : Oper) (v : Value) (a : Act) : Prop := ∀ w, Ext w0 w → YieldsIn P ops (fun w' => Ext w w') o v a
theorem YieldsR.of_same {o : Oper} {v : Value} {a a' : Act} (hy : YieldsR P ops w0 o v a) (he : execOp a'.eval o = execOp a.eval o)
    (hw : Region.wanted o (yielded ops a'.tmps) = Region.wanted o (yielded ops a.tmps)) : YieldsR P ops w0 o v a' := fun w h => (hy w h).of_same he hw

theorem wpAnyR_first {i : Nat} {oi : Oper} {v : Value} (hi : ops[i]? = some oi) (hsel : ∀ (j : Nat) (o : Oper) cs b, ops[j]? = some o → o.op ≠ .select cs b)
    (hQ : ∀ c a w, Q (.panic c) (a.put oi.dst v) w → Q (.panic c) a w) :
    ∀ (f : Nat) (listed : Array Bool) (a : Act) (w : World), Ext w0 w →
      (∀ j oj, ops[j]? = some oj → j ≠ i → listed.getD j true = false → (∀ e ∈ oj.after, Region.binds md e = true → e.on ≠ i) → oi.apart ops oj = true) →
      i ∈ Region.ready md ops listed → YieldsR P ops w0 oi v a →
      wpAnyR P md ops Q w0 f (listed.setIfInBounds i true) (a.put oi.dst v) w → wpAnyR P md ops Q w0 (f + 1) listed a w := by
  intro f
  induction f with
  | zero =>
    intro listed a w h0 _ hr hy H w' hx
    refine ⟨fun h => (by rw [h] at hr; cases hr), fun j hj => ?_⟩
    by_cases hji : j = i
    · subst hji
      exact wpOp_of_qOp (C := fun w'' => Ext w' w'') (Ext.refl w') (fun a' w'' hw'' (e : a' = a.put oi.dst v) => by rw [e]; exact ⟨(h0.trans hx).trans hw'', wpAnyR_ext 0 _ _ _ _ (hx.trans hw'') H⟩) ((hy w' (h0.trans hx)).qOp hi rfl)
    · have := ready_mono hj hji
      rw [(H w' hx).1] at this
      cases this
  | succ f ih =>
    intro listed a w h0 hfree hr hy H w' hx
    refine ⟨fun h => (by rw [h] at hr; cases hr), fun j hj => ?_⟩
    by_cases hji : j = i
    · subst hji
      exact wpOp_of_qOp (C := fun w'' => Ext w' w'') (Ext.refl w') (fun a' w'' hw'' (e : a' = a.put oi.dst v) => by rw [e]; exact ⟨(h0.trans hx).trans hw'', wpAnyR_ext _ _ _ _ _ (hx.trans hw'') H⟩) ((hy w' (h0.trans hx)).qOp hi rfl)
    · have h1 := (H w' hx).2 j (ready_mono hj hji)
      obtain ⟨hjun, oj, hoj, hall⟩ := mem_ready.1 hj
      have hun := (mem_ready.1 hr).1
      have hnot : ∀ e ∈ oj.after, Region.binds md e = true → e.on ≠ i := fun e he hb heq => by
        have h1 := hall e he hb
        rw [heq, getD_both hun] at h1
        cases h1
      have hap := hfree j oj hoj hji hjun hnot
      obtain ⟨_, _, r3⟩ := Oper.apart_spec hap
      have h2 := wpOp_keeps (Y := YieldsR P ops w0 oi v) hoj hap (fun cs b => hsel j oj cs b hoj) hQ
        (fun a u hy => hy.of_same (execOp_put oi (fun cs b => hsel i oi cs b hi) a oj.dst u r3) (wanted_put oi a oj.dst u r3)) (fun a d hy => hy.of_same rfl rfl) hy h1
      refine wpOp_mono (fun a' w'' h3 => ⟨h3.2.1, ih (listed.setIfInBounds j true) a' w'' h3.2.1 (fun k ok hk hki hk2 hno => ?_) (ready_mono hr (Ne.symm hji)) h3.1 ?_⟩) h2
      · refine hfree k ok hk hki ?_ hno
        by_cases hjk : j = k
        · subst hjk; exact hjun
        · rw [getD_set_ne true hjk] at hk2; exact hk2
      · rw [Array.setIfInBounds_comm _ _ hji]
        exact h3.2.2

/-- Take number i first. -/
theorem wpAnyR_take {i : Nat} {oi : Oper} {v : Value} {f : Nat} {listed : Array Bool} {a : Act} {w : World} (hi : ops[i]? = some oi)
    (hs : Region.noSelect ops = true) (hf : Region.free md ops listed i = true) (hr : (Region.ready md ops listed).contains i = true)
    (hQ : ∀ c a w, Q (.panic c) (a.put oi.dst v) w → Q (.panic c) a w) (hw : Ext w0 w) (hy : YieldsR P ops w0 oi v a)
    (h : wpAnyR P md ops Q w0 f (listed.setIfInBounds i true) (a.put oi.dst v) w) : wpAnyR P md ops Q w0 (f + 1) listed a w :=
  wpAnyR_first hi (Region.noSelect_spec hs) hQ f listed a w hw (Region.free_spec hi hf) (by simpa using hr) hy h
/-- Whichever of those that may come up comes up, in whatever world extends the one at hand. -/
theorem wpAnyR_all {rs : List Nat} {f : Nat} {listed : Array Bool} {a : Act} {w : World} (hr : Region.ready md ops listed = rs) (hne : rs ≠ [])
    (h : ∀ w', Ext w w' → ∀ i ∈ rs, wpOp P ops Q i (fun a' w'' => Ext w0 w'' ∧ wpAnyR P md ops Q w0 f (listed.setIfInBounds i true) a' w'') a w') : wpAnyR P md ops Q w0 (f + 1) listed a w :=
  fun w' hx => ⟨fun h0 => absurd (hr ▸ h0) hne, hr ▸ h w' hx⟩
/-- The beginning. -/
theorem wp_region_rely {id : Nat} {a : Act} {w : World} (hm : P.follows .mixedOrders = true)
    (h : wpAnyR P .any ops Q w ops.size (Array.replicate ops.size false) a w.drew) : (Code.region id ops true).wp P Q a w :=
  wp_region_any hm (wpAny_of_rely _ _ _ _ h)

/-- An operation without a guard that, in every world that extends w0, makes a call that only extends the world and answers v. -/
theorem yieldsR_call {o : Oper} {v : Value} {a : Act} {f : FuncId} {args : Array Value} (hg : o.guard = none) (he : ∀ w, (execOp a.eval o).run P w = .ok (.enter f args) w)
    (h : ∀ w, Ext w0 w → Calls P f args w fun e w' => e = .returned v ∧ Ext w w') : YieldsR P ops w0 o v a := fun w hw => by
  refine .inl ⟨by simp [Region.wanted, hg], fun w1 hx => ?_⟩
  unfold Oper.quietAt
  rw [he w1]
  exact ⟨rfl, (h w1 (hw.trans hx)).mono fun e w' ⟨h1, h2⟩ => ⟨h1, hx.trans h2⟩⟩
/-- An operation without a guard that leaves the world as it is and answers v in every world that extends w0 (a load of known cells). -/
theorem yieldsR_value {o : Oper} {v : Value} {a : Act} (hg : o.guard = none) (he : ∀ w, Ext w0 w → (execOp a.eval o).run P w = .ok (.value v) w) : YieldsR P ops w0 o v a := fun w hw => by
  refine .inl ⟨by simp [Region.wanted, hg], fun w1 hx => ?_⟩
  unfold Oper.quietAt
  rw [he w1 (hw.trans hx)]
  exact ⟨rfl, rfl⟩

/-- Each of the operations rs comes up next. -/
def AllReadyR (P : Program) (md : Region.Mode) (ops : Array Oper) (Q : Exit → Act → World → Prop) (w0 : World) (f : Nat) (listed : Array Bool) (a : Act) (w : World) (rs : List Nat) : Prop :=
  ∀ i ∈ rs, wpOp P ops Q i (fun a' w'' => Ext w0 w'' ∧ wpAnyR P md ops Q w0 f (listed.setIfInBounds i true) a' w'') a w
theorem AllReadyR.nil {f : Nat} {listed : Array Bool} {a : Act} {w : World} : AllReadyR P md ops Q w0 f listed a w [] := fun _ h => by cases h
theorem AllReadyR.cons {f : Nat} {listed : Array Bool} {a : Act} {w : World} {i : Nat} {o : Oper} {rs : List Nat} (ho : ops[i]? = some o) (hg : o.guard = none)
    (h : ∀ K : Act → World → Prop, (∀ a w, Ext w0 w → wpAnyR P md ops Q w0 f (listed.setIfInBounds i true) a w → K a w) → Oper.wp P o a w K Q)
    (hs : AllReadyR P md ops Q w0 f listed a w rs) : AllReadyR P md ops Q w0 f listed a w (i :: rs) := fun j hj => by
  rcases List.mem_cons.1 hj with rfl | hj
  · unfold wpOp
    rw [ho]
    show if Region.wanted o (yielded ops a.tmps) = true then _ else _
    rw [if_pos (by simp [Region.wanted, hg])]
    exact .inl (h _ fun _ _ h1 h2 => ⟨h1, h2⟩)
  · exact hs j hj
theorem wpAnyR_ready {rs : List Nat} {f : Nat} {listed : Array Bool} {a : Act} {w : World} (hr : Region.ready md ops listed = rs) (hne : rs ≠ [])
    (h : ∀ w', Ext w w' → AllReadyR P md ops Q w0 f listed a w' rs) : wpAnyR P md ops Q w0 (f + 1) listed a w := wpAnyR_all hr hne h
theorem wpAnyR_done {listed : Array Bool} {a : Act} {w : World} (hr : Region.ready md ops listed = []) (h : ∀ w', Ext w w' → Q .normal a w') : ∀ f, wpAnyR P md ops Q w0 f listed a w
  | 0 => fun w' hx => ⟨hr, h w' hx⟩
  | _ + 1 => fun w' hx => ⟨fun _ => h w' hx, by rw [hr]; simp⟩
/-- A variable of its own, at its zero value. -/
theorem wp_alloc_zero {o : Oper} {a : Act} {w : World} {K : Act → World → Prop} {ty : TypeId} {cs : Array Value} (ho : o.op = .alloc ty) (hz : ∀ w, (zeroValue ty).run P w = .ok (.agg cs) w)
    (h : K (a.put o.dst (.pointer (some ⟨w.heap.size, 0, none⟩))) (w.alloc (.cells cs ty))) : o.wp P a w K Q := by
  have hr : (execOp a.eval o).run P w = .ok (.value (.pointer (some ⟨w.heap.size, 0, none⟩))) (w.alloc (.cells cs ty)) := by
    unfold execOp
    rw [ho]
    simp [Instr.alloc, hz, newVar, newRow, Value.cells]
  unfold Oper.wp
  rw [hr]
  exact h

/-- A load of a whole row that is known. -/
theorem yieldsR_load_row {o : Oper} {a : Act} (hg : o.guard = none) (ty : TypeId) (x : Operand) (ho : o.op = .load ty x) (g : Nat) (hx : a.eval x = .pointer (some ⟨g, 0, none⟩)) (t : TypeId) (cs : Array Value) (d : TypeDesc) (hB : Blk w0 g t cs)
    (hu : P.underlying ty = some d) (hd : (match d with | .struct _ | .array _ _ => true | _ => false) = true) (hi : (P.info? ty).map (·.size) = some cs.size) : YieldsR P ops w0 o (.agg cs) a :=
  yieldsR_value hg fun W hW => by
    unfold execOp
    simp only [ho, hx, Instr.loadAt, Instr.sureAddr, Sem.run_bind, Sem.run_pure, Result.andThen_ok, run_loadVar_row W g t ty cs (0, 0) d (hB.ext hW) hu hd hi]

end
end Go.Proofs.YtkcgbdoplhgbmaaDoor
