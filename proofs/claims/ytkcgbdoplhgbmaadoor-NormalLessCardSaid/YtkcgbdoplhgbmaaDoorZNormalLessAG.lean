/- The reference's Not, Join and Meet as contracts over the sets' bytes. No condition. A region that draws its order, where operations that are quiet in every extension of the world at hand are taken first, and the others (allocs, stores) are walked with growth in between. The reference's Join and Meet as contracts over the sets' bytes. No condition. trawlref15.choice as a contract. Condition: the trees lie in memory, clean and in form. -/
import Derived.Test.YtkcgbdoplhgbmaaDoorZNormalLessAF
import Derived.Deep.RegionHeld3
import Derived.Test.YtkcgbdoplhgbmaaDoorLib
import Derived.OrdersHeld
import Derived.Deep.Quiet
import Derived.StillTailTactics
import Derived.Laws.Rows
import Derived.Test.YtkcgbdoplhgbmaaDoorNwR
import Derived.Test.YtkcgbdoplhgbmaaDoorZNormalLessAB
import Derived.Test.YtkcgbdoplhgbmaaDoorZNormalLessAE
namespace Go.Proofs.YtkcgbdoplhgbmaaDoor
open Go.RowKit

end Go.Proofs.YtkcgbdoplhgbmaaDoor

namespace Go.Proofs.YtkcgbdoplhgbmaaDoor
open Go Go.RowKit

section
variable {P : Program} {ops : Array Oper} {md : Region.Mode} {Q : Exit → Act → World → Prop} {w0 : World}

def wpAnyR (P : Program) (md : Region.Mode) (ops : Array Oper) (Q : Exit → Act → World → Prop) (w0 : World) : Nat → Array Bool → Act → World → Prop
  | 0, listed, a, w => ∀ w', Ext w w' → Region.ready md ops listed = [] ∧ Q .normal a w'
  | f + 1, listed, a, w => ∀ w', Ext w w' → (Region.ready md ops listed = [] → Q .normal a w') ∧
      ∀ i ∈ Region.ready md ops listed, wpOp P ops Q i (fun a' w'' => Ext w0 w'' ∧ wpAnyR P md ops Q w0 f (listed.setIfInBounds i true) a' w'') a w'

theorem wpAny_of_rely : ∀ (f : Nat) (listed : Array Bool) (a : Act) (w : World), wpAnyR P md ops Q w0 f listed a w → wpAny P md ops Q f listed a w
  | 0, _, _, w, h => h w (Ext.refl w)
  | f + 1, _, _, w, h => ⟨(h w (Ext.refl w)).1, fun i hi => wpOp_mono (fun a' w' h' => wpAny_of_rely f _ a' w' h'.2) ((h w (Ext.refl w)).2 i hi)⟩
theorem wpAnyR_ext : ∀ (f : Nat) (listed : Array Bool) (a : Act) (w w' : World), Ext w w' → wpAnyR P md ops Q w0 f listed a w → wpAnyR P md ops Q w0 f listed a w'
  | 0, _, _, _, _, hx, h => fun w'' hw => h w'' (hx.trans hw)
  | _ + 1, _, _, _, _, hx, h => fun w'' hw => h w'' (hx.trans hw)

/-- An operation apart from oi runs alike whether oi's value lies in its temporary or not, and what holds of oi's reading still holds behind it. -/
theorem wpOp_keeps {Y : Act → Prop} {j : Nat} {oi oj : Oper} {v : Value} (hj : ops[j]? = some oj) (hap : oi.apart ops oj = true) (hsj : ∀ cs b, oj.op ≠ .select cs b)
    (hQ : ∀ c a w, Q (.panic c) (a.put oi.dst v) w → Q (.panic c) a w) (keep : ∀ a u, Y a → Y (a.put oj.dst u)) (keepD : ∀ (a : Act) d, Y a → Y { a with defers := d :: a.defers })
    {K : Act → World → Prop} {a : Act} {w : World} (hy : Y a) (h : wpOp P ops Q j K (a.put oi.dst v) w) :
    wpOp P ops Q j (fun a' w' => Y a' ∧ K (a'.put oi.dst v) w') a w := by
  obtain ⟨r1, r2, _⟩ := Oper.apart_spec hap
  have hex := execOp_put oj hsj a oi.dst v r1
  have hwt := wanted_put oj a oi.dst v r1
  unfold wpOp at h ⊢
  simp only [hj] at h ⊢
  rw [hwt] at h
  by_cases hw : Region.wanted oj (yielded ops a.tmps) = true
  · rw [if_pos hw] at h ⊢
    rcases h with h | ⟨ha, hl⟩
    · left
      unfold Oper.wp at h ⊢
      rw [hex] at h
      cases hr : (execOp a.eval oj).run P w with
      | halt x w' =>
        rw [hr] at h
        cases x <;> simp only [Oper.upon] at h ⊢
        exact hQ _ _ _ h
      | ok n w' =>
        rw [hr] at h
        cases n <;> simp only [Oper.upon] at h ⊢
        · exact ⟨keep _ _ hy, by rw [← Act.put_comm a v _ r2]; exact h⟩
        all_goals first
          | exact ⟨keep _ _ hy, by rw [← Act.put_comm a v _ r2]; exact h⟩
          | exact Rows.mono h fun u w'' he => ⟨keep _ _ hy, by rw [← Act.put_comm a v u r2]; exact he⟩
          | (refine ⟨keep _ _ (keepD _ _ hy), ?_⟩; rw [← Act.put_comm _ v _ r2, ← Act.put_defers]; exact h)
          | (refine Calls.mono h fun e w'' he => ?_
             cases e with
             | returned u => exact ⟨keep _ _ hy, by rw [← Act.put_comm a v u r2]; exact he⟩
             | panicked c => exact hQ _ _ _ he
             | outgrown => exact he)
    · right
      refine ⟨?_, hl⟩
      unfold Oper.asks at ha ⊢
      rw [hex] at ha
      exact ha
  · rw [if_neg hw] at h ⊢
    exact ⟨keep _ _ hy, by rw [← Act.put_comm a v _ r2]; exact h⟩

/-- In state a, from every world that extends w0, operation o leaves v, and a world that extends the one it ran in. -/
def YieldsR (P : Program) (ops : Array Oper) (w0 : World) (o : Oper) (v : Value) (a : Act) : Prop := ∀ w, Ext w0 w → YieldsIn P ops (fun w' => Ext w w') o v a
theorem YieldsR.of_same {o : Oper} {v : Value} {a a' : Act} (hy : YieldsR P ops w0 o v a) (he : execOp a'.eval o = execOp a.eval o)
    (hw : Region.wanted o (yielded ops a'.tmps) = Region.wanted o (yielded ops a.tmps)) : YieldsR P ops w0 o v a' := fun w h => (hy w h).of_same he hw

theorem wpAnyR_first {i : Nat} {oi : Oper} {v : Value} (hi : ops[i]? = some oi) (hsel : ∀ (j : Nat) (o : Oper) cs b, ops[j]? = some o → o.op ≠ .select cs b)
    (hQ : ∀ c a w, Q (.panic c) (a.put oi.dst v) w → Q (.panic c) a w) :
    ∀ (f : Nat) (listed : Array Bool) (a : Act) (w : World), Ext w0 w →
      (∀ j oj, ops[j]? = some oj → j ≠ i → listed.getD j true = false → (∀ e ∈ oj.after, Region.binds md e = true → e.on ≠ i) → oi.apart ops oj = true) →
      i ∈ Region.ready md ops listed → YieldsR P ops w0 oi v a →
      wpAnyR P md ops Q w0 f (listed.setIfInBounds i true) (a.put oi.dst v) w → wpAnyR P md ops Q w0 (f + 1) listed a w := by
  intro f
  induction f with
  | zero =>
    intro listed a w h0 _ hr hy H w' hx
    refine ⟨fun h => (by rw [h] at hr; cases hr), fun j hj => ?_⟩
    by_cases hji : j = i
    · subst hji
      exact wpOp_of_qOp (C := fun w'' => Ext w' w'') (Ext.refl w') (fun a' w'' hw'' (e : a' = a.put oi.dst v) => by rw [e]; exact ⟨(h0.trans hx).trans hw'', wpAnyR_ext 0 _ _ _ _ (hx.trans hw'') H⟩) ((hy w' (h0.trans hx)).qOp hi rfl)
    · have := ready_mono hj hji
      rw [(H w' hx).1] at this
      cases this
  | succ f ih =>
    intro listed a w h0 hfree hr hy H w' hx
    refine ⟨fun h => (by rw [h] at hr; cases hr), fun j hj => ?_⟩
    by_cases hji : j = i
    · subst hji
      exact wpOp_of_qOp (C := fun w'' => Ext w' w'') (Ext.refl w') (fun a' w'' hw'' (e : a' = a.put oi.dst v) => by rw [e]; exact ⟨(h0.trans hx).trans hw'', wpAnyR_ext _ _ _ _ _ (hx.trans hw'') H⟩) ((hy w' (h0.trans hx)).qOp hi rfl)
    · have h1 := (H w' hx).2 j (ready_mono hj hji)
      obtain ⟨hjun, oj, hoj, hall⟩ := mem_ready.1 hj
      have hun := (mem_ready.1 hr).1
      have hnot : ∀ e ∈ oj.after, Region.binds md e = true → e.on ≠ i := fun e he hb heq => by
        have h1 := hall e he hb
        rw [heq, getD_both hun] at h1
        cases h1
      have hap := hfree j oj hoj hji hjun hnot
      obtain ⟨_, _, r3⟩ := Oper.apart_spec hap
      have h2 := wpOp_keeps (Y := YieldsR P ops w0 oi v) hoj hap (fun cs b => hsel j oj cs b hoj) hQ
        (fun a u hy => hy.of_same (execOp_put oi (fun cs b => hsel i oi cs b hi) a oj.dst u r3) (wanted_put oi a oj.dst u r3)) (fun a d hy => hy.of_same rfl rfl) hy h1
      refine wpOp_mono (fun a' w'' h3 => ⟨h3.2.1, ih (listed.setIfInBounds j true) a' w'' h3.2.1 (fun k ok hk hki hk2 hno => ?_) (ready_mono hr (Ne.symm hji)) h3.1 ?_⟩) h2
      · refine hfree k ok hk hki ?_ hno
        by_cases hjk : j = k
        · subst hjk; exact hjun
        · rw [getD_set_ne true hjk] at hk2; exact hk2
      · rw [Array.setIfInBounds_comm _ _ hji]
        exact h3.2.2

/-- Take number i first. -/
theorem wpAnyR_take {i : Nat} {oi : Oper} {v : Value} {f : Nat} {listed : Array Bool} {a : Act} {w : World} (hi : ops[i]? = some oi)
    (hs : Region.noSelect ops = true) (hf : Region.free md ops listed i = true) (hr : (Region.ready md ops listed).contains i = true)
    (hQ : ∀ c a w, Q (.panic c) (a.put oi.dst v) w → Q (.panic c) a w) (hw : Ext w0 w) (hy : YieldsR P ops w0 oi v a)
    (h : wpAnyR P md ops Q w0 f (listed.setIfInBounds i true) (a.put oi.dst v) w) : wpAnyR P md ops Q w0 (f + 1) listed a w :=
  wpAnyR_first hi (Region.noSelect_spec hs) hQ f listed a w hw (Region.free_spec hi hf) (by simpa using hr) hy h
/-- Whichever of those that may come up comes up, in whatever world extends the one at hand. -/
theorem wpAnyR_all {rs : List Nat} {f : Nat} {listed : Array Bool} {a : Act} {w : World} (hr : Region.ready md ops listed = rs) (hne : rs ≠ [])
    (h : ∀ w', Ext w w' → ∀ i ∈ rs, wpOp P ops Q i (fun a' w'' => Ext w0 w'' ∧ wpAnyR P md ops Q w0 f (listed.setIfInBounds i true) a' w'') a w') : wpAnyR P md ops Q w0 (f + 1) listed a w :=
  fun w' hx => ⟨fun h0 => absurd (hr ▸ h0) hne, hr ▸ h w' hx⟩
/-- The beginning. -/
theorem wp_region_rely {id : Nat} {a : Act} {w : World} (hm : P.follows .mixedOrders = true)
    (h : wpAnyR P .any ops Q w ops.size (Array.replicate ops.size false) a w.drew) : (Code.region id ops true).wp P Q a w :=
  wp_region_any hm (wpAny_of_rely _ _ _ _ h)

/-- An operation without a guard that, in every world that extends w0, makes a call that only extends the world and answers v. -/
theorem yieldsR_call {o : Oper} {v : Value} {a : Act} {f : FuncId} {args : Array Value} (hg : o.guard = none) (he : ∀ w, (execOp a.eval o).run P w = .ok (.enter f args) w)
    (h : ∀ w, Ext w0 w → Calls P f args w fun e w' => e = .returned v ∧ Ext w w') : YieldsR P ops w0 o v a := fun w hw => by
  refine .inl ⟨by simp [Region.wanted, hg], fun w1 hx => ?_⟩
  unfold Oper.quietAt
  rw [he w1]
  exact ⟨rfl, (h w1 (hw.trans hx)).mono fun e w' ⟨h1, h2⟩ => ⟨h1, hx.trans h2⟩⟩
/-- An operation without a guard that leaves the world as it is and answers v in every world that extends w0 (a load of known cells). -/
theorem yieldsR_value {o : Oper} {v : Value} {a : Act} (hg : o.guard = none) (he : ∀ w, Ext w0 w → (execOp a.eval o).run P w = .ok (.value v) w) : YieldsR P ops w0 o v a := fun w hw => by
  refine .inl ⟨by simp [Region.wanted, hg], fun w1 hx => ?_⟩
  unfold Oper.quietAt
  rw [he w1 (hw.trans hx)]
  exact ⟨rfl, rfl⟩

/-- Each of the operations rs comes up next. -/
def AllReadyR (P : Program) (md : Region.Mode) (ops : Array Oper) (Q : Exit → Act → World → Prop) (w0 : World) (f : Nat) (listed : Array Bool) (a : Act) (w : World) (rs : List Nat) : Prop :=
  ∀ i ∈ rs, wpOp P ops Q i (fun a' w'' => Ext w0 w'' ∧ wpAnyR P md ops Q w0 f (listed.setIfInBounds i true) a' w'') a w
theorem AllReadyR.nil {f : Nat} {listed : Array Bool} {a : Act} {w : World} : AllReadyR P md ops Q w0 f listed a w [] := fun _ h => by cases h
theorem AllReadyR.cons {f : Nat} {listed : Array Bool} {a : Act} {w : World} {i : Nat} {o : Oper} {rs : List Nat} (ho : ops[i]? = some o) (hg : o.guard = none)
    (h : ∀ K : Act → World → Prop, (∀ a w, Ext w0 w → wpAnyR P md ops Q w0 f (listed.setIfInBounds i true) a w → K a w) → Oper.wp P o a w K Q)
    (hs : AllReadyR P md ops Q w0 f listed a w rs) : AllReadyR P md ops Q w0 f listed a w (i :: rs) := fun j hj => by
  rcases List.mem_cons.1 hj with rfl | hj
  · unfold wpOp
    rw [ho]
    show if Region.wanted o (yielded ops a.tmps) = true then _ else _
    rw [if_pos (by simp [Region.wanted, hg])]
    exact .inl (h _ fun _ _ h1 h2 => ⟨h1, h2⟩)
  · exact hs j hj
theorem wpAnyR_ready {rs : List Nat} {f : Nat} {listed : Array Bool} {a : Act} {w : World} (hr : Region.ready md ops listed = rs) (hne : rs ≠ [])
    (h : ∀ w', Ext w w' → AllReadyR P md ops Q w0 f listed a w' rs) : wpAnyR P md ops Q w0 (f + 1) listed a w := wpAnyR_all hr hne h
theorem wpAnyR_done {listed : Array Bool} {a : Act} {w : World} (hr : Region.ready md ops listed = []) (h : ∀ w', Ext w w' → Q .normal a w') : ∀ f, wpAnyR P md ops Q w0 f listed a w
  | 0 => fun w' hx => ⟨hr, h w' hx⟩
  | _ + 1 => fun w' hx => ⟨fun _ => h w' hx, by rw [hr]; simp⟩
/-- A variable of its own, at its zero value. -/
theorem wp_alloc_zero {o : Oper} {a : Act} {w : World} {K : Act → World → Prop} {ty : TypeId} {cs : Array Value} (ho : o.op = .alloc ty) (hz : ∀ w, (zeroValue ty).run P w = .ok (.agg cs) w)
    (h : K (a.put o.dst (.pointer (some ⟨w.heap.size, 0, none⟩))) (w.alloc (.cells cs ty))) : o.wp P a w K Q := by
  have hr : (execOp a.eval o).run P w = .ok (.value (.pointer (some ⟨w.heap.size, 0, none⟩))) (w.alloc (.cells cs ty)) := by
    unfold execOp
    rw [ho]
    simp [Instr.alloc, hz, newVar, newRow, Value.cells]
  unfold Oper.wp
  rw [hr]
  exact h

/-- A load of a whole row that is known. -/
theorem yieldsR_load_row {o : Oper} {a : Act} (hg : o.guard = none) (ty : TypeId) (x : Operand) (ho : o.op = .load ty x) (g : Nat) (hx : a.eval x = .pointer (some ⟨g, 0, none⟩)) (t : TypeId) (cs : Array Value) (d : TypeDesc) (hB : Blk w0 g t cs)
    (hu : P.underlying ty = some d) (hd : (match d with | .struct _ | .array _ _ => true | _ => false) = true) (hi : (P.info? ty).map (·.size) = some cs.size) : YieldsR P ops w0 o (.agg cs) a :=
  yieldsR_value hg fun W hW => by
    unfold execOp
    simp only [ho, hx, Instr.loadAt, Instr.sureAddr, Sem.run_bind, Sem.run_pure, Result.andThen_ok, run_loadVar_row W g t ty cs (0, 0) d (hB.ext hW) hu hd hi]

end
end Go.Proofs.YtkcgbdoplhgbmaaDoor

namespace Go.Proofs.YtkcgbdoplhgbmaaDoor
open Go.RowKit

abbrev jL (pos : String) (d x : Nat) : Oper := { dst := some d, op := .load 24 (.tmp x), type := 24, pos := pos, after := #[], guard := none }
abbrev jA (pos : String) (d : Nat) : Oper := { dst := some d, op := .alloc 178, type := 0, pos := pos, after := #[], guard := none }
abbrev jB (pos : String) (d x : Nat) (after : Array Edge) : Oper := { dst := some d, op := .call { callee := .value (.func 139), args := #[.tmp x], argTypes := #[24] }, type := 178, pos := pos, after := after, guard := none }
abbrev jS (pos : String) (x y : Nat) (after : Array Edge) : Oper := { dst := none, op := .store 178 (.tmp x) (.tmp y), type := 0, pos := pos, after := after, guard := none }

set_option maxRecDepth 100000 in
set_option maxHeartbeats 2000000 in
theorem rJoin_any (p q : Nat → Bool) (w : World) :
    Calls Tryd.prog 129 #[setV p, setV q] w fun r w' => r = .returned (setV fun b => p b || q b) ∧ Ext w w' := by
  have HBp := Lib.hid (fun W => bits_any p W)
  have HBq := Lib.hid (fun W => bits_any q W)
  have HM := Lib.hid (fun q W => made_any q W)
  have hzz := Lib.hid zero_bools
  unfold setV u64v
  go_enter Tryd.func129, Tryd.ntmps129
  go_wp2
  obtain ⟨w1, hw1⟩ : ∃ w1, w1 = ((w.alloc (.cells #[.int .u64 (wd p 0 : Int), .int .u64 (wd p 1 : Int), .int .u64 (wd p 2 : Int), .int .u64 (wd p 3 : Int)] 24)).alloc (.cells #[.int .u64 (wd q 0 : Int), .int .u64 (wd q 1 : Int), .int .u64 (wd q 2 : Int), .int .u64 (wd q 3 : Int)] 24)).alloc (.cells #[.int .u64 0, .int .u64 0, .int .u64 0, .int .u64 0] 24) := ⟨_, rfl⟩
  rw [← hw1]
  have ha : Blk w1 w.heap.size 24 (setC p) := by rw [hw1]; exact (((Blk.new w 24 (setC p)).alloc _).alloc _)
  have hb : Blk w1 (w.heap.size + 1) 24 (setC q) := by
    rw [hw1]
    exact (show Blk _ _ _ _ from heap_alloc2_new w (.cells (setC p) 24) (.cells (setC q) 24)).alloc _
  have hr : Blk w1 (w.heap.size + 2) 24 (setC fun _ => false) := by
    rw [hw1, setC_none]
    have := heap_alloc2_new (w.alloc (.cells (setC p) 24)) (.cells (setC q) 24) (.cells #[.int .u64 0, .int .u64 0, .int .u64 0, .int .u64 0] 24)
    rw [World.size_alloc] at this
    exact this
  have hx1 : Ext w w1 := by rw [hw1]; exact (((Ext.refl w).alloc _).alloc _).alloc _
  have hz1 : w1.heap.size = w.heap.size + 3 := by rw [hw1]; simp
  clear hw1
  go_cut [5, 6] (fun u v wx => ∃ g h : Nat, u = .pointer (some ⟨g, 0, none⟩) ∧ v = .pointer (some ⟨h, 0, none⟩) ∧ w.heap.size + 2 < g ∧ w.heap.size + 2 < h ∧ g ≠ h ∧ Blk wx g 178 (bC p) ∧ Blk wx h 178 (bC q) ∧ Blk wx (w.heap.size + 2) 24 (setC fun _ => false) ∧ Ext w wx)
  case first =>
    refine wp_region_rely (by kernel_rfl) ?_
    refine wpAnyR_take (i := 0) (oi := jL "ref.go:58" 8 2) rfl (by kernel_rfl) (by kernel_rfl) (by kernel_rfl) (fun _ _ _ h => h) (Ext.refl w1).drew (yieldsR_load_row rfl 24 (.tmp 2) rfl w.heap.size rfl _ _ _ ha Tryd.underlying24 rfl (info_setC p)) ?_
    simp only [Act.put, List.setIfInBounds_toArray, List.set_cons_zero, List.set_cons_succ]
    refine wpAnyR_take (i := 1) (oi := jB "ref.go:58" 9 8 _) rfl (by kernel_rfl) (by kernel_rfl) (by kernel_rfl) (fun _ _ _ h => h) (Ext.refl w1).drew (yieldsR_call (f := 139) (args := #[setV p]) rfl (fun _ => by go_simp; try rfl) (fun W _ => HBp.out W)) ?_
    simp only [Act.put, List.setIfInBounds_toArray, List.set_cons_zero, List.set_cons_succ]
    refine wpAnyR_take (i := 2) (oi := jL "ref.go:58" 10 3) rfl (by kernel_rfl) (by kernel_rfl) (by kernel_rfl) (fun _ _ _ h => h) (Ext.refl w1).drew (yieldsR_load_row rfl 24 (.tmp 3) rfl (w.heap.size + 1) rfl _ _ _ hb Tryd.underlying24 rfl (info_setC q)) ?_
    simp only [Act.put, List.setIfInBounds_toArray, List.set_cons_zero, List.set_cons_succ]
    refine wpAnyR_take (i := 3) (oi := jB "ref.go:58" 11 10 _) rfl (by kernel_rfl) (by kernel_rfl) (by kernel_rfl) (fun _ _ _ h => h) (Ext.refl w1).drew (yieldsR_call (f := 139) (args := #[setV q]) rfl (fun _ => by go_simp; try rfl) (fun W _ => HBq.out W)) ?_
    simp only [Act.put, List.setIfInBounds_toArray, List.set_cons_zero, List.set_cons_succ]
    refine wpAnyR_ready (rs := [4, 5]) (by kernel_rfl) (by simp) fun w2 hx2 => ?_
    have hx2 : Ext w1 w2 := (Ext.refl w1).drew.trans hx2
    have hz2 := hx2.size
    refine AllReadyR.cons (o := jA "ref.go:58" 5) rfl rfl (fun K hK => wp_alloc_zero rfl hzz.out (hK _ _ (hx2.alloc _) ?_)) (AllReadyR.cons (o := jA "ref.go:58" 6) rfl rfl (fun K hK => wp_alloc_zero rfl hzz.out (hK _ _ (hx2.alloc _) ?_)) .nil)
    · simp only [Act.put, List.setIfInBounds_toArray, List.set_cons_zero, List.set_cons_succ]
      refine wpAnyR_ready (rs := [5]) (by kernel_rfl) (by simp) fun w3 hx3 => ?_
      clear hK K
      refine AllReadyR.cons (o := jA "ref.go:58" 6) rfl rfl (fun K hK => wp_alloc_zero rfl hzz.out (hK _ _ (((hx2.alloc _).trans hx3).alloc _) ?_)) .nil
      clear hK K
      simp only [Act.put, List.setIfInBounds_toArray, List.set_cons_zero, List.set_cons_succ]
      have hG := ((Blk.new w2 178 (bC fun _ => false)).ext hx3).alloc (.cells (bC fun _ => false) 178)
      have hH := Blk.new w3 178 (bC fun _ => false)
      have hX := ((hx2.alloc (.cells (bC fun _ => false) 178)).trans hx3).alloc (.cells (bC fun _ => false) 178)
      have hne : w2.heap.size ≠ w3.heap.size := by have := hx3.size; simp at this; omega
      have hzG : w1.heap.size ≤ w2.heap.size := hz2
      have hzH : w1.heap.size ≤ w3.heap.size := by have := hx3.size; simp at this; omega
      clear hx2 hx3 hz2
      generalize w3.alloc (.cells (bC fun _ => false) 178) = w4 at *
      generalize w2.heap.size = g at *
      generalize w3.heap.size = h at *
      refine wpAnyR_ready (rs := [6]) (by kernel_rfl) (by simp) fun w5 hx5 => ?_
      refine AllReadyR.cons (o := jS "ref.go:58" 5 9 _) rfl rfl (fun K hK => wp_store_row 178 (.tmp 5) (.tmp 9) rfl g (bC p) rfl rfl _ (bC fun _ => false) (hG.ext hx5) (info_boolsC p) (bC_sz _ _) (bC_one p) (hK _ _ ((hX.trans hx5).setRow (by omega) _) ?_)) .nil
      clear hK K
      simp only [Act.put]
      refine wpAnyR_ready (rs := [7]) (by kernel_rfl) (by simp) fun w6 hx6 => ?_
      refine AllReadyR.cons (o := jS "ref.go:58" 6 11 _) rfl rfl (fun K hK => wp_store_row 178 (.tmp 6) (.tmp 11) rfl h (bC q) rfl rfl _ (bC fun _ => false) (((hH.ext hx5).rowFar (by omega)).ext hx6) (info_boolsC q) (bC_sz _ _) (bC_one q) (hK _ _ ((((hX.trans hx5).setRow (by omega) _).trans hx6).setRow (by omega) _) ?_)) .nil
      clear hK K
      refine wpAnyR_done (by kernel_rfl) (fun w7 hx7 => ?_) _
      have k1 : Ext w1 w7 := (((((hX.trans hx5).setRow (by omega) _).trans hx6).setRow (by omega) _)).trans hx7
      go_wp2
      go_meet
      case rel =>
       refine ⟨g, h, rfl, rfl, by omega, by omega, by omega, ?_, ?_, hr.ext k1, hx1.trans k1⟩
       · exact ((((hG.ext hx5).setRow).ext hx6).rowFar (by omega)).ext hx7
       · exact ((((hH.ext hx5).rowFar (by omega)).ext hx6).setRow).ext hx7
    · simp only [Act.put, List.setIfInBounds_toArray, List.set_cons_zero, List.set_cons_succ]
      refine wpAnyR_ready (rs := [4]) (by kernel_rfl) (by simp) fun w3 hx3 => ?_
      clear hK K
      refine AllReadyR.cons (o := jA "ref.go:58" 5) rfl rfl (fun K hK => wp_alloc_zero rfl hzz.out (hK _ _ (((hx2.alloc _).trans hx3).alloc _) ?_)) .nil
      clear hK K
      simp only [Act.put, List.setIfInBounds_toArray, List.set_cons_zero, List.set_cons_succ]
      have hG := ((Blk.new w2 178 (bC fun _ => false)).ext hx3).alloc (.cells (bC fun _ => false) 178)
      have hH := Blk.new w3 178 (bC fun _ => false)
      have hX := ((hx2.alloc (.cells (bC fun _ => false) 178)).trans hx3).alloc (.cells (bC fun _ => false) 178)
      have hne : w2.heap.size ≠ w3.heap.size := by have := hx3.size; simp at this; omega
      have hzG : w1.heap.size ≤ w2.heap.size := hz2
      have hzH : w1.heap.size ≤ w3.heap.size := by have := hx3.size; simp at this; omega
      clear hx2 hx3 hz2
      generalize w3.alloc (.cells (bC fun _ => false) 178) = w4 at *
      generalize w2.heap.size = h at *
      generalize w3.heap.size = g at *
      refine wpAnyR_ready (rs := [6]) (by kernel_rfl) (by simp) fun w5 hx5 => ?_
      refine AllReadyR.cons (o := jS "ref.go:58" 5 9 _) rfl rfl (fun K hK => wp_store_row 178 (.tmp 5) (.tmp 9) rfl g (bC p) rfl rfl _ (bC fun _ => false) (hH.ext hx5) (info_boolsC p) (bC_sz _ _) (bC_one p) (hK _ _ ((hX.trans hx5).setRow (by omega) _) ?_)) .nil
      clear hK K
      simp only [Act.put]
      refine wpAnyR_ready (rs := [7]) (by kernel_rfl) (by simp) fun w6 hx6 => ?_
      refine AllReadyR.cons (o := jS "ref.go:58" 6 11 _) rfl rfl (fun K hK => wp_store_row 178 (.tmp 6) (.tmp 11) rfl h (bC q) rfl rfl _ (bC fun _ => false) (((hG.ext hx5).rowFar (by omega)).ext hx6) (info_boolsC q) (bC_sz _ _) (bC_one q) (hK _ _ ((((hX.trans hx5).setRow (by omega) _).trans hx6).setRow (by omega) _) ?_)) .nil
      clear hK K
      refine wpAnyR_done (by kernel_rfl) (fun w7 hx7 => ?_) _
      have k1 : Ext w1 w7 := (((((hX.trans hx5).setRow (by omega) _).trans hx6).setRow (by omega) _)).trans hx7
      go_wp2
      go_meet
      case rel =>
       refine ⟨g, h, rfl, rfl, by omega, by omega, by omega, ?_, ?_, hr.ext k1, hx1.trans k1⟩
       · exact ((((hH.ext hx5).setRow).ext hx6).rowFar (by omega)).ext hx7
       · exact ((((hG.ext hx5).rowFar (by omega)).ext hx6).setRow).ext hx7
  case rest =>
    obtain ⟨g, h, rfl, rfl, hg, hh, hne, hG, hH, hR, hX⟩ := hcut
    clear ha hb hr hx1 hz1 HBp HBq w1
    go_wp2
    go_loopw [7] (fun i wr => ∃ k : Nat, k ≤ 256 ∧ i = .int .i64 k ∧ Blk wr g 178 (bC (upB (fun b => p b || q b) p k)) ∧ Blk wr h 178 (bC q) ∧ Blk wr (w.heap.size + 2) 24 (setC fun _ => false) ∧ Ext w wr) (fun i _ => 256 - (intOf i).toNat)
    case atStart => exact ⟨0, by omega, rfl, by rw [upB_zero]; exact hG, hH, hR, hX⟩
    case round =>
      clear hG hH hR hX
      obtain ⟨k, hk, rfl, hs, ht, hr, hx⟩ := hrel
      by_cases hlt : k < 256
      · have c2 := hs.cell k
        rw [bC_get _ _ hlt, upB_here] at c2
        have c3 := ht.cell k
        rw [bC_get _ _ hlt] at c3
        have f2 := hs.frozen k
        have hset := bC_set (upB (fun b => p b || q b) p k) (upB (fun b => p b || q b) p (k + 1)) k (p k || q k) (upB_at _ _ _) (upB_ne _ _ _)
        have HS := Lib.hid hset
        clear hset
        cases hp : p k with
        | false =>
          rw [hp] at c2
          have HP := Lib.hid hp
          clear hp
          go_wp2
          go_roundw
          case rel =>
            refine ⟨k + 1, by omega, by go_num, ?_, ht.far (by simp; omega) _, hr.far (by simp; omega) _, hx.setCell (by simp; omega) _⟩
            rw [← HS.out, HP.out, Bool.false_or]
            exact hs.set k _
          case measure => simp [intOf]; omega
        | true =>
          rw [hp] at c2
          have HP := Lib.hid hp
          clear hp
          go_wp2
          go_roundw
          case rel =>
            refine ⟨k + 1, by omega, by go_num, ?_, ht.far (by simp; omega) _, hr.far (by simp; omega) _, hx.setCell (by simp; omega) _⟩
            rw [← HS.out, HP.out, Bool.true_or]
            exact hs.set k _
          case measure => simp [intOf]; omega
      · rw [upB_full _ _ _ (by omega)] at hs
        go_wp2_with (first
          | (refine wpl_loadB rfl (.tmp 5) rfl g _ (fun b => p b || q b) rfl hs ?_)
          | (go_at_call 140; refine (HM.out _ _).mono ?_; rintro e w4 ⟨rfl, hx4⟩)
          | (refine wpl_storeSet rfl (.tmp 4) (.tmp 27) rfl (w.heap.size + 2) _ (fun b => p b || q b) (fun _ => false) rfl rfl (hr.ext hx4) ?_))
        exact ret_set rfl rfl rfl (hr.ext hx4).setRow ⟨rfl, (hx.trans hx4).setRow (by omega) _⟩

end Go.Proofs.YtkcgbdoplhgbmaaDoor

namespace Go.Proofs.YtkcgbdoplhgbmaaDoor
open Go Go.RowKit

theorem allB_take (l : List Nd) (k : Nat) (hk : k < l.length) : allB (l.take (k + 1)) = if l[k].h.kind = 2 then orS (allB (l.take k)) l[k].h.set else allB (l.take k) := by
  unfold allB
  rw [take_snoc l k hk, List.foldl_append]
  rfl
theorem set_small {n : Nd} (p : Nat → Bool) (h : smallN n) : smallN (setOf n p) := by
  obtain ⟨hd, s⟩ := n
  exact h
theorem set_nd {C : Nat} {W : World} {n : Nd} {sv : Value} (p : Nat → Bool) (h : NdB C W n sv) : NdB C W (setOf n p) sv := by
  obtain ⟨hd, s⟩ := n
  exact h
theorem orS_v (p q : Nat → Bool) : setV (fun b => p b || q b) = setV (orS p q) := rfl
def choS (all : Nat → Bool) (l : List Nd) : List Nd × Bool := l.foldl (choAdd all) ([], false)
theorem choS_take (all : Nat → Bool) (l : List Nd) (k : Nat) (hk : k < l.length) : choS all (l.take (k + 1)) = choAdd all (choS all (l.take k)) l[k] := by
  unfold choS
  rw [take_snoc l k hk, List.foldl_append]
  rfl
theorem choS_len (all : Nat → Bool) : ∀ (l : List Nd) (st : List Nd × Bool), (l.foldl (choAdd all) st).1.length ≤ st.1.length + l.length
  | [], st => by simp
  | s :: l, st => by
    rw [List.foldl_cons]
    have ih := choS_len all l (choAdd all st s)
    have : (choAdd all st s).1.length ≤ st.1.length + 1 := by
      unfold choAdd
      split
      · split
        · omega
        · simp only
          split <;> simp
      · simp only
        split <;> simp
    rw [List.length_cons]
    omega

set_option maxRecDepth 100000 in
set_option maxHeartbeats 16000000 in
theorem rchoice_any (ns : List Nd) (lv : Value) (w : World) (C : Nat) (hn : NdB C w (.mk (hdV 0) ns) lv) (hC : C ≤ w.heap.size) (hok : ∀ n ∈ ns, okN n) (hcnt : cntL ns ≤ 1000000) :
    Calls Tryd.prog 112 #[lv] w (RetFromB C w (altO ns)) := by
  obtain ⟨A, c, rfl⟩ := hn.ok.shape
  have HN := Lib.hid hn
  have HC := Lib.hid hC
  have HIS := Lib.hid (fun W h sv => ris_any h sv W)
  have HNO := Lib.hid (fun W => rnothing_any W)
  have HJ := Lib.hid (fun p q W => rJoin_any p q W)
  have hsl : ns.length ≤ 1000000 := by have := cntL_len ns; omega
  have HR := Lib.hid ((alt_choice hok).trans (show choR ns = altN (choS (allB ns) ns).1 from rfl))
  have HSM := Lib.hid (fun n (hm : n ∈ ns) => cnt_small n (by have := cntL_mem hm; omega))
  clear hn hok hcnt hC
  generalize altO ns = res at *
  simp only [Nd.subs] at *
  go_enter Tryd.func112, Tryd.ntmps112
  go_upto_region 2 with (first
    | (refine wpl_allocNd rfl rfl ?_; intro z w2 hz hx2 ez sz)
    | (refine wpl_allocSet rfl rfl ?_; intro g3 w3 hg3 hx3 e3 s3)
    | (refine wpl_storeSet rfl _ _ rfl g3 _ noS _ rfl (by rw [setV_eq]; exact congrArg Value.agg setC_none.symm) hg3 ?_))
  have hg4 := hg3.setRow (cs' := setC noS)
  have hx34 : Ext w2 (w3.setRow g3 (setC noS)) := hx3.setRow e3 _
  generalize w3.setRow g3 (setC noS) = w4 at *
  have h2s := hx2.size
  have h4s := hx34.size
  have hzg : z < g3 := by have := hz.lt; omega
  clear hg3 hx3 s3
  have hx24 := hx2.trans hx34
  have hx44 : Ext w2 w4 := hx34
  go_wp2
  go_loopw [4] (fun i wr => ∃ k : Nat, k ≤ ns.length ∧ i = .int .i64 k ∧ Blk wr g3 24 (setC (allB (ns.take k))) ∧ Ext w2 wr) (fun i _ => ns.length - (intOf i).toNat)
  case atStart => exact ⟨0, Nat.zero_le _, rfl, hg4, hx44⟩
  case round =>
    clear hg4 hx44
    obtain ⟨k, hk, rfl, hg, hx⟩ := hrel
    have hxw := hx2.trans hx
    by_cases hlt : k < ns.length
    · obtain ⟨g0, o0, sv, rfl, hat, hok⟩ := HN.out.get k hlt
      replace hat := hat.ext hxw
      have hk0 : wr.cell? ⟨g0, o0 + k * 10, none⟩ = some (.int .i64 ns[k].h.kind) := hat 0 (by omega)
      have HT := Lib.hid (allB_take ns k hlt)
      have d1 : (k : Int) < (ns.length : Int) := by omega
      by_cases k2 : ns[k].h.kind = 2
      · have HT2 := Lib.hid (HT.out.trans (if_pos k2))
        have q1 := cell_plus (show wr.cell? ⟨g0, o0 + k * 10 + 1, none⟩ = some (.int .u64 (wd ns[k].h.set 0 : Int)) from hat 1 (by omega))
        have q2 := cell_plus (show wr.cell? ⟨g0, o0 + k * 10 + 1 + 1, none⟩ = some (.int .u64 (wd ns[k].h.set 1 : Int)) from hat 2 (by omega))
        have q3 := cell_plus (show wr.cell? ⟨g0, o0 + k * 10 + 1 + 2, none⟩ = some (.int .u64 (wd ns[k].h.set 2 : Int)) from hat 3 (by omega))
        have q4 := cell_plus (show wr.cell? ⟨g0, o0 + k * 10 + 1 + 3, none⟩ = some (.int .u64 (wd ns[k].h.set 3 : Int)) from hat 4 (by omega))
        obtain ⟨a0, a1, a2, a3, _, _, _, _⟩ := setC_cells hg
        have p0 := cell_plus a0
        have p1 := cell_plus a1
        have p2 := cell_plus a2
        have p3 := cell_plus a3
        rw [k2] at hk0
        clear HT HN k2 a0 a1 a2 a3 hok hat
        generalize ns[k].h.set = qs at *
        generalize allB (ns.take k) = al at *
        go_upto_region 6 with fail
        refine wp_region_plus_tail 6 (by kernel_rfl) (by kernel_rfl) ?_
        simp only [List.take_succ_cons, List.take_zero, List.drop_succ_cons, List.drop_zero]
        repeat (go_big_quiet_step (fail))
        refine wpQuiet_nil ?_
        intro y
        have hyx := plus_ext wr y
        replace hg := hg.ext hyx
        have hHJ := Lib.hid (by have := HJ.out al qs (plus wr y); rwa [orS_v] at this : Calls Tryd.prog 129 #[setV al, setV qs] (plus wr y) fun r w' => r = .returned (setV (orS al qs)) ∧ Ext (plus wr y) w')
        unfold setV u64v at hHJ
        clear p0 p1 p2 p3 q1 q2 q3 q4
        generalize plus wr y = wp at *
        go_wp2_with (first
          | (go_at_call 129; refine hHJ.out.mono ?_; rintro e w5 ⟨rfl, hx5⟩)
          | (refine wpl_storeSet rfl _ _ rfl g3 _ (orS al qs) _ rfl rfl (hg.ext hx5) ?_))
        have hg6 := (hg.ext hx5).setRow (cs' := setC (orS al qs))
        have hx6 : Ext w2 (w5.setRow g3 (setC (orS al qs))) := ((hx.trans hyx).trans hx5).setRow e3 _
        generalize w5.setRow g3 (setC (orS al qs)) = w6 at *
        go_roundw
        case rel => exact ⟨k + 1, by omega, by go_num, by rw [HT2.out]; exact hg6, hx6⟩
        case measure => simp [intOf]; omega
      · have HT2 := Lib.hid (HT.out.trans (if_neg k2))
        have n2 : (ns[k].h.kind == 2) = false := by rw [beq_eq_false_iff_ne]; exact k2
        clear HT HN k2 hok hat
        generalize ns[k].h.kind = kind at *
        go_wp2
        go_roundw
        case rel => exact ⟨k + 1, by omega, by go_num, by rw [HT2.out]; exact hg, hx⟩
        case measure => simp [intOf]; omega
    · have hkl : ns.take k = ns := List.take_of_length_le (by omega)
      rw [hkl] at hg
      have hd1 : ¬ (k : Int) < (ns.length : Int) := by omega
      obtain ⟨wo, hwo⟩ : ∃ wo, wo = wr := ⟨_, rfl⟩
      subst hwo
      have hL0 : LstB wo wo.heap.size C (.slice none 0 0) [] := LstB.nil _ _ _
      have hxr : Ext wo wo := Ext.refl wo
      have hzo := hz.ext hx
      have hwos := hx.size
      have hzl := hz.lt
      generalize allB ns = al at *
      clear hkl hk hlt HJ hx24 hz
      go_wp2
      go_loopw [5, 6, 7] (fun v lv i wt => ∃ (k : Nat) (l : List (Nd × Value)) (laid : Bool), k ≤ ns.length ∧ i = .int .i64 k ∧ lv = .bool laid ∧ choS al (ns.take k) = (l.map (·.1), laid) ∧ Hid (∀ x ∈ l, NdB C w x.1 x.2 ∧ smallN x.1) ∧ LstB wt wo.heap.size C v l ∧ Ext wo wt) (fun _ _ i _ => ns.length - (intOf i).toNat)
      case atStart => exact ⟨0, [], false, Nat.zero_le _, rfl, rfl, rfl, Lib.hid (fun _ h => by cases h), hL0, hxr⟩
      case round =>
        clear hL0 hxr
        obtain ⟨k, l, laid, hk, rfl, rfl, hl, HOLD, hL, hx'⟩ := hrel
        have hxw' := hxw.trans hx'
        have hg' := hg.ext hx'
        have hll : l.length ≤ 1000000 := by
          have := choS_len al (ns.take k) ([], false)
          rw [show (ns.take k).foldl (choAdd al) ([], false) = (l.map (·.1), laid) from hl, List.length_map, List.length_take] at this
          simp at this
          omega
        obtain ⟨A3, c3, rfl, hc3⟩ := hL.len
        by_cases hlt : k < ns.length
        · obtain ⟨g0, o0, sv, rfl, hat, hok⟩ := HN.out.get k hlt
          replace hat := hat.ext hxw'
          have HP := Lib.hid (by rw [choS_take al ns k hlt, hl] : choS al (ns.take (k + 1)) = choAdd al (l.map (·.1), laid) ns[k])
          have HSK := Lib.hid (HSM.out _ (List.getElem_mem hlt))
          have HOKW := Lib.hid hok
          have hsl' := hok.ok.sl
          clear HN hl hok HSM
          generalize ns[k] = sn at *
          have d1 : (k : Int) < (ns.length : Int) := by omega
          go_upto_region 13 with (first
            | (refine wpl_loadNd rfl _ rfl g0 (o0 + k * 10) sn.h sv rfl hat ?_)
            | (refine wpl_allocNd rfl rfl ?_; intro s w5 hs hx5 es ss)
            | (refine wpl_storeNd rfl _ _ rfl rfl s sn.h _ sv _ rfl rfl hsl' hs ?_; intro wq hsq hk6; have hx6 := hx5.keep1 hk6 es))
          have hL6 := hL.ext hx6
          have hg6 := hg'.ext hx6
          have hxq := hx'.trans hx6
          have hk0 : wq.cell? ⟨s, 0, none⟩ = some (.int .i64 sn.h.kind) := hsq.cell 0
          have hs2 : wo.heap.size ≤ s := by have := hx'.size; omega
          have HOB := Lib.hid (fun i hi => (by have := hL.ownB i hi; omega : i ≠ s) : ∀ i, (Value.slice A3 l.length c3).ownBlock = some i → i ≠ s)
          have HOB2 := Lib.hid (fun i hi => (by have := hL.ownB i hi; omega : w.heap.size ≤ i) : ∀ i, (Value.slice A3 l.length c3).ownBlock = some i → w.heap.size ≤ i)
          clear hs hx5 hk6 hat hL hg' hxw' hx6 ss es
          -- what stands in the box when the search begins
          have HCS : (sn.h.kind = 2 ∧ (laid = true ∨ nthB sn = true)) ∨ (sn.h.kind = 2 ∧ laid = false ∧ nthB sn = false) ∨ sn.h.kind ≠ 2 := by
            by_cases h2 : sn.h.kind = 2
            · cases laid
              · cases h3 : nthB sn
                · exact .inr (.inl ⟨h2, rfl, rfl⟩)
                · exact .inl ⟨h2, .inr rfl⟩
              · exact .inl ⟨h2, .inl rfl⟩
            · exact .inr (.inr h2)
          rcases HCS with ⟨h2, h3⟩ | ⟨h2, rfl, h3⟩ | h2
          case inl =>
            have HP2 := Lib.hid (HP.out.trans (by unfold choAdd; rw [if_pos h2, if_pos h3] : _ = (l.map (·.1), laid)))
            rw [h2] at hk0
            clear HP h2
            cases laid
            · have hnh : nthH sn.h = true := (h3.resolve_left (by decide) : nthB sn = true)
              have HI1 := Lib.hid (by have := HIS.out wq sn.h sv; rwa [hnh] at this : Calls Tryd.prog 127 #[nodeV sn.h sv] wq fun r w' => r = .returned (.bool true) ∧ Ext wq w')
              clear hnh h3 HIS
              go_wp2_with (first
                | (refine wpl_loadNdG _ rfl rfl s 0 sn.h sv rfl hsq.nd ?_)
                | (go_at_call 127; refine HI1.out.mono ?_; rintro e w7 ⟨rfl, hx7⟩))
              go_roundw
              case rel => exact ⟨k + 1, l, _, by omega, by go_num, rfl, HP2.out, HOLD, hL6.ext hx7, hxq.trans hx7⟩
              case measure => simp [intOf]; omega
            · clear h3 HIS
              go_wp2
              go_roundw
              case rel => exact ⟨k + 1, l, _, by omega, by go_num, rfl, HP2.out, HOLD, hL6, hxq⟩
              case measure => simp [intOf]; omega
          case' inr.inl =>
            have HPq := Lib.hid (HP.out.trans (by unfold choAdd; rw [if_pos h2, if_neg (by rw [h3]; simp)] : _ = (if (l.map (·.1)).any (fun o => sameN o (setOf sn al)) = true then l.map (·.1) else l.map (·.1) ++ [setOf sn al], true)))
            have hnh : nthH sn.h = false := h3
            have HI1 := Lib.hid (by have := HIS.out wq sn.h sv; rwa [hnh] at this : Calls Tryd.prog 127 #[nodeV sn.h sv] wq fun r w' => r = .returned (.bool false) ∧ Ext wq w')
            rw [h2] at hk0
            clear hnh h3 HIS HP h2
            go_upto_region 16 with (first
              | (refine wpl_loadNdG _ rfl rfl s 0 sn.h sv rfl hsq.nd ?_)
              | (go_at_call 127; refine HI1.out.mono ?_; rintro e w7 ⟨rfl, hx7⟩))
            have hs7 := hsq.ext hx7
            have hg7 := hg6.ext hx7
            go_upto_region 17 with (first
              | (refine wpl_loadSet rfl _ rfl g3 _ al rfl hg7 ?_)
              | (refine wpl_storeSetIn rfl _ _ rfl rfl s sn.h sv al rfl rfl hs7 ?_; intro wq hsq hk8))
            replace hxq := (hxq.trans hx7).keep1 hk8 hs2
            have hxwq := hxw.trans hxq
            have hLq : LstB wq wo.heap.size C (.slice A3 l.length c3) l := ⟨(hL6.ext hx7).own.keeps hk8 (fun i hi e => HOB.out i hi e), fun x hx => (HOLD.out x hx).1.far hxwq HOB2.out⟩
            have HNq := Lib.hid (⟨set_nd al HOKW.out, set_small al HSK.out⟩ : NdB C w (setOf sn al) sv ∧ smallN (setOf sn al))
            have hsh : (setOf sn al).h = { sn.h with set := al } := rfl
            rw [← hsh] at hsq
            clear hs7 hg7 hk8 hx7 hL6 hsh HOKW HSK hk0 HI1
            generalize setOf sn al = sn at *
          case' inr.inr =>
            have HPq := Lib.hid (HP.out.trans (by unfold choAdd; rw [if_neg h2] : _ = (if (l.map (·.1)).any (fun o => sameN o sn) = true then l.map (·.1) else l.map (·.1) ++ [sn], laid)))
            have n2 : (sn.h.kind == 2) = false := by rw [beq_eq_false_iff_ne]; exact h2
            have hxwq := hxw.trans hxq
            have hLq := hL6
            have HNq := Lib.hid (⟨HOKW.out, HSK.out⟩ : NdB C w sn sv ∧ smallN sn)
            clear h2 HIS HP HOKW HSK hL6
          all_goals
            have hll2 : l.length ≤ 1000000000 := by omega
            have hqq : Ext wq wq := Ext.refl wq
            go_upto_region 19 with fail
            go_loopw [9, 10] (fun bv j wt => ∃ m : Nat, m ≤ l.length ∧ j = .int .i64 m ∧ bv = .bool (((l.map (·.1)).take m).any (fun o => sameN o sn)) ∧ Ext wq wt) (fun _ j _ => l.length - (intOf j).toNat)
            case atStart => exact ⟨0, Nat.zero_le _, rfl, rfl, hqq⟩
            case round =>
              clear hqq
              obtain ⟨m, hm, rfl, rfl, hx7⟩ := hrel
              by_cases hml : m < l.length
              · obtain ⟨gl, capl, e1, _, _, _⟩ := hLq.own.form (by simp; omega)
                simp only [Value.slice.injEq] at e1
                obtain ⟨rfl, eL, rfl⟩ := e1
                clear eL
                have hmi : l[m]? = some l[m] := List.getElem?_eq_getElem hml
                have hato : NdAt wr gl (m * 10) l[m].1.h l[m].2 := NdAt.ext (fun j hj => hLq.own.cell m _ (by rw [List.getElem?_map, hmi]; rfl) j hj) hx7
                have hol := HOLD.out _ (List.getElem_mem hml)
                have HSAME := Lib.hid (fun W (hW : Ext wr W) => sameR_any l[m].1 l[m].2 sn sv W (hol.1.ok.ext ((hxwq.trans hx7).trans hW)) (HNq.out.1.ok.ext ((hxwq.trans hx7).trans hW)) hol.2)
                have hml' : m < (l.map (·.1)).length := by rw [List.length_map]; exact hml
                have HST := Lib.hid (show ((l.map (·.1)).take (m + 1)).any (fun o => sameN o sn) = (((l.map (·.1)).take m).any (fun o => sameN o sn) || sameN l[m].1 sn) by
                  rw [take_snoc _ m hml', List.any_append]
                  simp)
                have hs7 := hsq.ext hx7
                have d4 : (m : Int) < (l.length : Int) := by omega
                clear hol hml' hmi
                generalize hsn : sameN l[m].1 sn = sb at *
                clear hsn
                generalize ((l.map (·.1)).take m).any (fun o => sameN o sn) = pb at *
                generalize l[m].2 = so at *
                generalize l[m].1 = o at *
                go_upto_region 21 with fail
                refine wp_region_plus (by kernel_rfl) (by kernel_rfl) ?_
                repeat (first
                  | (refine wpQuiet_loadNd _ rfl rfl gl (m * 10) o.h so rfl hato ?_; simp only [Act.put, List.setIfInBounds_toArray, List.set_cons_succ, List.set_cons_zero])
                  | (refine wpQuiet_loadNd _ rfl rfl s 0 sn.h sv rfl hs7.nd ?_; simp only [Act.put, List.setIfInBounds_toArray, List.set_cons_succ, List.set_cons_zero])
                  | (go_big_quiet_step ((go_at_call 130; exact Calls.plus_of (HSAME.out _ (plus_ext _ _))))))
                refine wpQuiet_nil ?_
                intro y
                have hyx := plus_ext wr y
                generalize plus wr y = wy at *
                cases pb
                all_goals
                  go_wp2
                  go_roundw
                  case rel => exact ⟨m + 1, by omega, by go_num, by rw [HST.out]; rfl, hx7.trans hyx⟩
                  case measure => simp [intOf]; omega
              · have hmt : (l.map (·.1)).take m = l.map (·.1) := List.take_of_length_le (by rw [List.length_map]; omega)
                rw [hmt]
                have d4 : ¬ (m : Int) < (l.length : Int) := by omega
                have hL7 := hLq.ext hx7
                have hs7 := hsq.ext hx7
                have hB7 : wo.heap.size ≤ wr.heap.size := by have := hx7.size; have := hxq.size; omega
                have hfar := Lib.hid (HNq.out.1.far (hxwq.trans hx7) HOB2.out)
                have hslq := HNq.out.1.ok.sl
                clear hmt hm hml hLq hsq
                by_cases hb : (l.map (·.1)).any (fun o => sameN o sn) = true
                · have HPE := Lib.hid (HPq.out.trans (by rw [if_pos hb]))
                  rw [hb]
                  clear hb HPq hfar hs7
                  go_wp2
                  go_roundw
                  case rel => exact ⟨k + 1, l, _, by omega, by go_num, rfl, HPE.out, HOLD, hL7, hxq.trans hx7⟩
                  case measure => simp [intOf]; omega
                · have hbf : (l.map (·.1)).any (fun o => sameN o sn) = false := by simpa using hb
                  have HPE := Lib.hid (HPq.out.trans (by rw [if_neg hb]))
                  rw [hbf]
                  clear hb hbf HPq
                  go_wp2_with (first
                    | (refine wpl_loadNd rfl _ rfl s 0 sn.h sv rfl hs7.nd ?_)
                    | (refine wpl_oneNd rfl _ rfl sn.h sv rfl ?_; intro g8 w8 hb8 hx8 e8 s8)
                    | (refine wpl_appB rfl _ _ rfl wo.heap.size C (.slice A3 l.length c3) l sn sv g8 1 rfl rfl (hL7.ext hx8) (by have := hx8.size; omega) (ndIn_ext hfar.out hx8) hb8 hll2 ?_; intro v9 w9 hL9 hg9))
                  have hx9 := ext_grown_B ((hxq.trans hx7).trans hx8) (hL7.ext hx8) (Nat.le_refl _) hg9
                  go_roundw
                  case rel => exact ⟨k + 1, l ++ [(sn, sv)], _, by omega, by go_num, rfl, by rw [HPE.out, List.map_append]; rfl, Lib.hid (fun x hm => by
                    rcases List.mem_append.1 hm with hm | hm
                    · exact HOLD.out x hm
                    · rw [List.mem_singleton.1 hm]; exact HNq.out), hL9, hx9⟩
                  case measure => simp [intOf]; omega
        · have hkl : ns.take k = ns := List.take_of_length_le (by omega)
          rw [hkl] at hl
          have HE2 := Lib.hid (show res = altN (l.map (·.1)) by rw [HR.out, hl])
          have hwB : C ≤ wo.heap.size := by have := HC.out; omega
          have hd2 : ¬ (k : Int) < (ns.length : Int) := by omega
          have hzt := hzo.ext hx'
          have hts := hx'.size
          clear hl hkl hk hlt HN HIS HSM HR hg hg'
          match l, HE2, HOLD, hL, hll with
          | [], HE2, HOLM, hM, hml =>
            simp only [List.length_nil] at *
            clear HOLM hM
            go_wp2_with (first
              | (go_at_call 128; refine (HNO.out _).mono ?_; rintro e w7 ⟨sv7, rfl, hn7, hx7⟩)
              | (refine wpl_storeNd rfl _ _ rfl rfl z _ _ sv7 _ rfl rfl hn7.ok.sl (hzt.ext hx7) ?_; intro w8 hz8 hk8))
            exact ret_nd rfl rfl rfl hz8 ⟨sv7, by rw [HE2.out]; rfl, by rw [HE2.out]; exact (hn7.keep1 hk8 (by omega)).mono (by have := HC.out; omega), (hxw'.trans hx7).keep1 hk8 ez⟩
          | [x], HE2, HOLM, hM, hml =>
            obtain ⟨gm, capm, e1, _, _, _⟩ := hM.own.form (by simp)
            simp only [Value.slice.injEq] at e1
            obtain ⟨rfl, eL, rfl⟩ := e1
            clear eL
            have hatx : NdAt wr gm 0 x.1.h x.2 := fun j hj => by
              have := hM.own.cell 0 (nodeC x.1.h x.2) rfl j hj
              rwa [Nat.zero_mul] at this
            have HKX := Lib.hid (HOLM.out x (by simp)).1
            have hslx := HKX.out.ok.sl
            clear HOLM
            simp only [List.length_cons, List.length_nil] at *
            clear hM HNO
            go_wp2_with (first
              | (refine wpl_loadNd rfl _ rfl gm 0 x.1.h x.2 rfl hatx ?_)
              | (refine wpl_storeNd rfl _ _ rfl rfl z x.1.h _ x.2 _ rfl rfl hslx hzt ?_; intro w5 hz5 hk5))
            exact ret_nd rfl rfl rfl hz5 ⟨x.2, by rw [HE2.out]; rfl, by rw [HE2.out]; exact HKX.out.ext (hxw'.keep1 hk5 ez), hxw'.keep1 hk5 ez⟩
          | x :: y :: r, HE2, HOLM, hM, hml =>
            have d0 : 2 ≤ (x :: y :: r).length := by simp
            have HS : altN ((x :: y :: r).map (·.1)) = .mk (hdV 6) ((x :: y :: r).map (·.1)) := rfl
            rw [HS] at HE2
            have HM := Lib.hid hM
            clear HS hM HNO
            generalize (x :: y :: r) = ml at *
            generalize hL : ml.length = L at *
            clear hL
            have d1 : ((L : Int) == 0) = false := by rw [beq_eq_false_iff_ne]; omega
            have d2 : ((L : Int) == 1) = false := by rw [beq_eq_false_iff_ne]; omega
            have d3 : ¬ L = 0 := by omega
            have d4 : ¬ L = 1 := by omega
            go_wp2_with (refine wpl_storeNd rfl _ _ rfl rfl z (hdV 6) _ (.slice A3 L c3) _ rfl (node_lit _ _ _ _ _ _) (isSl_mk _ _ _) hzt ?_; intro w5 hz5 hk5)
            have hxf := hxw'.keep1 hk5 ez
            have hM5 : LstB w5 wo.heap.size C (.slice A3 L c3) ml := ⟨HM.out.own.keeps hk5 (fun i hi e => by have := HM.out.ownB i hi; omega), fun x hx => (HOLM.out x hx).1.far hxf (fun i hi => by have := HM.out.ownB i hi; omega)⟩
            exact ret_nd rfl rfl rfl hz5 ⟨_, by rw [HE2.out]; rfl, by rw [HE2.out]; exact hM5.node hwB (hdV 6), hxf⟩

end Go.Proofs.YtkcgbdoplhgbmaaDoor
