/- Laws of the walk for parses taken whole: box, zero, load, store. No condition. A region that draws its order, whose first n operations are quiet in a class of worlds and whose others come last and one behind the other: one walk, in the order of the text. No condition. rank.spans and rank.admitted as contracts; loads of nodes and parses in drawn regions that only grow. Condition: the parse lies in memory. rank.inner and rank.parse as contracts: whether a parse is one of a right tree. Condition: both lie in memory; the scene is a new one. -/
import Derived.Test.YtgfknlkpdiejgaaGreatDoorZRankedSpansAI
import Derived.Test.YtgfknlkpdiejgaaGreatDoorZRankedSpansAF
import Derived.StillTailTactics
import Derived.Test.YtgfknlkpdiejgaaGreatDoorLib
import Derived.Test.YtgfknlkpdiejgaaGreatDoorZRankedSpansAJ
import Derived.Test.YtgfknlkpdiejgaaGreatDoorSetC
import Derived.BigQuiet
import Derived.Test.YtgfknlkpdiejgaaGreatDoorOctet
namespace Go.Proofs.YtgfknlkpdiejgaaGreatDoor
open Go Go.RowKit

theorem psA_size (d : Pd) (sv : Value) : (psA d sv).size = 4 := rfl
theorem psA_get (d : Pd) (sv : Value) (i : Nat) : (psA d sv)[i]? = (psC d sv)[i]? := by simp [psA]
theorem info_ps : (Tryz.prog.info? 83).map (·.size) = some 4 := by kernel_rfl
theorem info_psA (d : Pd) (sv : Value) : (Tryz.prog.info? 83).map (·.size) = some (psA d sv).size := info_ps
theorem PsOk.sl {W : World} {n : Ps} {sv : Value} (h : PsOk W n sv) : isSl sv := by
  obtain ⟨A, c, rfl⟩ := h.shape
  exact ⟨_, _, _, rfl⟩
theorem psC_one {d : Pd} {sv : Value} (hs : isSl sv) : ∀ u ∈ psC d sv, u.oneCell' = true := by
  intro u hu
  simp only [psC, List.mem_cons, List.not_mem_nil, or_false] at hu
  rcases hu with rfl | rfl | rfl | rfl
  all_goals first | rfl | exact hs.one
theorem psA_one {d : Pd} {sv : Value} (hs : isSl sv) : (psA d sv).all (·.oneCell') = true := by
  rw [Array.all_eq_true_iff_forall_mem]
  intro x hx
  exact psC_one (d := d) hs x (by simpa [psA] using hx)

section
variable {ops : Array Oper} {rest : List Oper} {o : Oper} {a : Act} {w : World} {Q : Exit → Act → World → Prop}
/-- 'box' of a parse. -/
theorem wpl_boxPs (hgd : o.guard = none) (x : Operand) (ho : o.op = .box 83 x) (d : Pd) (sv : Value) (hx : a.eval x = psV d sv)
    (hK : ∀ g w1, Blk w1 g 83 (psA d sv) → Ext w w1 → w.heap.size ≤ g → g < w1.heap.size → wpList Tryz.prog ops Q rest (a.put o.dst (.pointer (some ⟨g, 0, none⟩))) w1) : wpList Tryz.prog ops Q (o :: rest) a w :=
  wpList_plain hgd fun _ hKK => by
    have hr : (execOp a.eval o).run Tryz.prog w = .ok (.value (.pointer (some ⟨w.heap.size, 0, none⟩))) (w.alloc (.cells (psA d sv) 83)) := by
      unfold execOp
      rw [ho]
      simp [Instr.box, hx, psV_eq, newVar, newRow, Value.cells]
    unfold Oper.wp
    rw [hr]
    exact hKK _ _ (hK _ _ (Blk.new w _ _) ((Ext.refl w).alloc _) (Nat.le_refl _) (by simp))
/-- 'alloc' of a parse: the zero. -/
theorem wpl_allocPs (hgd : o.guard = none) (ho : o.op = .alloc 83)
    (hK : ∀ g w1, Blk w1 g 83 (psA ⟨0, 0, 0⟩ (.slice none 0 0)) → Ext w w1 → w.heap.size ≤ g → g < w1.heap.size → wpList Tryz.prog ops Q rest (a.put o.dst (.pointer (some ⟨g, 0, none⟩))) w1) : wpList Tryz.prog ops Q (o :: rest) a w :=
  wpList_plain hgd fun _ hKK => by
    have hr : (execOp a.eval o).run Tryz.prog w = .ok (.value (.pointer (some ⟨w.heap.size, 0, none⟩))) (w.alloc (.cells (psA ⟨0, 0, 0⟩ (.slice none 0 0)) 83)) := by
      unfold execOp
      rw [ho]
      simp [Instr.alloc, newVar, newRow, Value.cells]
      rfl
    unfold Oper.wp
    rw [hr]
    exact hKK _ _ (hK _ _ (Blk.new w _ _) ((Ext.refl w).alloc _) (Nat.le_refl _) (by simp))
/-- The load of a whole parse. -/
theorem wpl_loadPs (hgd : o.guard = none) (x : Operand) (ho : o.op = .load 83 x) (g k : Nat) (d : Pd) (sv : Value) (hx : a.eval x = .pointer (some ⟨g, k, none⟩)) (hN : PsAt w g k d sv)
    (hK : wpList Tryz.prog ops Q rest (a.put o.dst (psV d sv)) w) : wpList Tryz.prog ops Q (o :: rest) a w :=
  wpList_load_mid hgd 83 x ho g k hx (psC d sv) _ (fun j v hv => by
    have hj : j < 4 := (List.getElem?_eq_some_iff.1 hv).1
    rw [hN j hj, hv]) Tryz.underlying83 rfl info_ps hK
/-- The load of a whole parse, guarded. -/
theorem wpl_loadPsG (x : Operand) (ho : o.op = .load 83 x) (hw : Region.wanted o (yielded ops a.tmps) = true) (g k : Nat) (d : Pd) (sv : Value) (hx : a.eval x = .pointer (some ⟨g, k, none⟩)) (hN : PsAt w g k d sv)
    (hK : wpList Tryz.prog ops Q rest (a.put o.dst (psV d sv)) w) : wpList Tryz.prog ops Q (o :: rest) a w := by
  unfold wpList
  rw [if_pos hw]
  exact .inl (wp_load_mid 83 x ho g k hx (psC d sv) _ (fun j v hv => by
    have hj : j < 4 := (List.getElem?_eq_some_iff.1 hv).1
    rw [hN j hj, hv]) Tryz.underlying83 rfl info_ps hK)
/-- The load of a whole parse in a region's quiet head. -/
theorem wpStill_loadPs {Q : Act → Prop} (x : Operand) (ho : o.op = .load 83 x) (hw : Region.wanted o (yielded ops a.tmps) = true) (g k : Nat) (d : Pd) (sv : Value) (hx : a.eval x = .pointer (some ⟨g, k, none⟩)) (hN : PsAt w g k d sv)
    (hK : wpStill Tryz.prog ops w Q rest (a.put o.dst (psV d sv))) : wpStill Tryz.prog ops w Q (o :: rest) a := by
  unfold wpStill
  rw [if_pos hw]
  have hr := run_loadAt_mid (P := Tryz.prog) w g k 83 (psC d sv) _ (fun j v hv => by
    have hj : j < 4 := (List.getElem?_eq_some_iff.1 hv).1
    rw [hN j hj, hv]) Tryz.underlying83 rfl info_ps
  unfold Oper.still execOp
  simp only [ho, hx, Sem.run_bind, Sem.run_pure, Result.andThen_ok, hr]
  rw [Oper.stillUpon_value]
  exact hK
/-- The store of a whole parse into a block of its own. -/
theorem wpl_storePs (hgd : o.guard = none) (x y : Operand) (ho : o.op = .store 83 x y) (hd : o.dst = none) (g : Nat) (d d' : Pd) (sv sv' : Value) (hx : a.eval x = .pointer (some ⟨g, 0, none⟩)) (hy : a.eval y = psV d sv) (hs : isSl sv) (hB : Blk w g 83 (psA d' sv'))
    (hK : ∀ w1, Blk w1 g 83 (psA d sv) → Keeps (· = g) w w1 → wpList Tryz.prog ops Q rest a w1) : wpList Tryz.prog ops Q (o :: rest) a w := by
  have hpa : a.put o.dst undef = a := by rw [hd]; rfl
  rw [← hpa] at hK
  refine wpList_store_row hgd _ x y ho g (psA d sv) hx hy _ (psA d' sv') hB (info_psA d sv) rfl (psA_one hs) (hK _ (setRow_heap w g _ _ _ _ hB) ⟨rfl, rfl, rfl, by simp, fun k _ hk => setRow_other w g k _ hk⟩)
end

end Go.Proofs.YtgfknlkpdiejgaaGreatDoor

namespace Go.Proofs.YtgfknlkpdiejgaaGreatDoor
open Go Go.RowKit

section
variable {P : Program} {ops : Array Oper} {md : Region.Mode} {C : World → Prop}

/-- f operations of the first n, whichever come up. -/
def headQ (P : Program) (md : Region.Mode) (ops : Array Oper) (C : World → Prop) (n : Nat) (L : Array Bool → Act → Prop) : Nat → Array Bool → Act → Prop
  | 0, listed, a => L listed a
  | f + 1, listed, a => Region.ready md ops listed ≠ [] ∧ ∀ i ∈ Region.ready md ops listed, i < n ∧ qOp P ops C i (headQ P md ops C n L f (listed.setIfInBounds i true)) a

theorem any_of_headQ {n g : Nat} {L : Array Bool → Act → Prop} {Q' : Exit → Act → World → Prop} (hL : ∀ listed a w, C w → L listed a → wpAny P md ops Q' g listed a w) :
    ∀ (f : Nat) (listed : Array Bool) (a : Act) (w : World), C w → headQ P md ops C n L f listed a → wpAny P md ops Q' (f + g) listed a w
  | 0, listed, a, w, hw, h => by rw [Nat.zero_add]; exact hL _ _ _ hw h
  | f + 1, listed, a, w, hw, h => by
    have e : f + 1 + g = (f + g) + 1 := by omega
    rw [e]
    exact ⟨fun h0 => absurd h0 h.1, fun i hi => wpOp_of_qOp hw (fun a' w' hw' h' => any_of_headQ hL f _ a' w' hw' h') (h.2 i hi).2⟩

theorem headQ_first {n i : Nat} {oi : Oper} {v : Value} {L : Array Bool → Act → Prop} (hi : ops[i]? = some oi) (hsel : ∀ (j : Nat) (o : Oper) cs b, ops[j]? = some o → o.op ≠ .select cs b)
    (hs : Region.sinkB md ops n = true) (hc : Region.chainB md ops n = true) (hn : n < ops.size) (hin : i < n)
    (hdone : ∀ listed a, L listed a → ∀ j ∈ Region.ready md ops listed, n ≤ j) :
    ∀ (f : Nat) (listed : Array Bool) (a : Act), HeadInv md ops n listed →
      (∀ j oj, ops[j]? = some oj → j ≠ i → listed.getD j true = false → (∀ e ∈ oj.after, Region.binds md e = true → e.on ≠ i) → oi.apart ops oj = true) →
      i ∈ Region.ready md ops listed → YieldsIn P ops C oi v a →
      headQ P md ops C n L f (listed.setIfInBounds i true) (a.put oi.dst v) → headQ P md ops C n L (f + 1) listed a := by
  intro f
  induction f with
  | zero =>
    intro listed a inv _ hr hy H
    refine ⟨fun h => (by rw [h] at hr; cases hr), fun j hj => ?_⟩
    have hjn : j < n := by
      rcases Nat.lt_or_ge j n with h | h
      · exact h
      · exact absurd hj (tail_waits hs hc hn inv _ i rfl hin (mem_ready.1 hr).1 j h)
    refine ⟨hjn, ?_⟩
    by_cases hji : j = i
    · subst hji; exact hy.qOp hi H
    · have := hdone _ _ H j (ready_mono hj hji)
      omega
  | succ f ih =>
    intro listed a inv hfree hr hy H
    have hun := (mem_ready.1 hr).1
    refine ⟨fun h => (by rw [h] at hr; cases hr), fun j hj => ?_⟩
    have hjn : j < n := by
      rcases Nat.lt_or_ge j n with h | h
      · exact h
      · exact absurd hj (tail_waits hs hc hn inv _ i rfl hin hun j h)
    refine ⟨hjn, ?_⟩
    by_cases hji : j = i
    · subst hji; exact hy.qOp hi H
    · have h1 := (H.2 j (ready_mono hj hji)).2
      obtain ⟨hjun, oj, hoj, hall⟩ := mem_ready.1 hj
      have hnot : ∀ e ∈ oj.after, Region.binds md e = true → e.on ≠ i := fun e he hb heq => by
        have h1 := hall e he hb
        rw [heq, getD_both hun] at h1
        cases h1
      have h2 := qOp_put hoj (hfree j oj hoj hji hjun hnot) (fun cs b => hsel i oi cs b hi) (fun cs b => hsel j oj cs b hoj) hy h1
      refine qOp_mono (fun a' h3 => ih (listed.setIfInBounds j true) a' (inv.set hj hjn) (fun k ok hk hki hk2 hno => ?_) (ready_mono hr (Ne.symm hji)) h3.1 ?_) h2
      · refine hfree k ok hk hki ?_ hno
        by_cases hjk : j = k
        · subst hjk; exact hjun
        · rw [getD_set_ne true hjk] at hk2; exact hk2
      · rw [Array.setIfInBounds_comm _ _ hji]
        exact h3.2

theorem headQ_lex {n g : Nat} {Lq : Act → Prop} (hsel : Region.noSelect ops = true) (hs : Region.sinkB md ops n = true) (hc : Region.chainB md ops n = true) (hn : n < ops.size) :
    ∀ (l : List Oper) (k : Nat) (listed : Array Bool) (a : Act), (∀ j, j < l.length → l[j]? = ops[k + j]?) → k + l.length = n → HeadInv md ops n listed →
    Region.lexHead md ops g l.length k listed = true → wpQuiet P ops C Lq l a →
    headQ P md ops C n (fun listed' a' => Region.seqB md ops g n listed' = true ∧ Lq a') l.length listed a
  | [], k, listed, a, _, hk, _, hB, h => by
    have : k = n := by simpa using hk
    subst this
    exact ⟨by simpa [Region.lexHead] using hB, h⟩
  | o :: l, k, listed, a, hl, hk, inv, hB, h => by
    have h0 : ops[k]? = some o := by simpa using (hl 0 (by simp)).symm
    simp only [List.length_cons, Region.lexHead, Bool.and_eq_true] at hB
    obtain ⟨⟨hr, hf⟩, hB'⟩ := hB
    have hkn : k < n := by simp only [List.length_cons] at hk; omega
    have hr' : k ∈ Region.ready md ops listed := by simpa using hr
    have hst : qOp P ops C k (wpQuiet P ops C Lq l) a := by unfold qOp; simp only [h0]; exact h
    obtain ⟨v, hy, hK⟩ := yieldsIn_of_qOp h0 hst
    exact headQ_first h0 (Region.noSelect_spec hsel) hs hc hn hkn (fun listed' a' hL => seqB_ready hL.1) l.length listed a inv (Region.free_spec h0 hf) hr' hy
      (headQ_lex hsel hs hc hn l (k + 1) _ _ (fun j hj => by have := hl (j + 1) (by simp; omega); simpa [Nat.add_assoc, Nat.add_comm 1 j] using this) (by simp only [List.length_cons] at hk; omega) (inv.set hr' hkn) hB' hK)
end

/-- The law: the first n operations in every world of the class, what comes behind them from every such world. -/
theorem wp_region_quiet_tail {P : Program} {C : World → Prop} {id : Nat} {Q : Exit → Act → World → Prop} {a : Act} {w : World} {l : List Oper} (n : Nat) (hm : P.follows .mixedOrders = true) (hB : Region.lexTailB .any l.toArray n = true)
    (hC : C { w with drawn := w.drawn + 1 }) (h : wpQuiet P l.toArray C (fun a' => ∀ w', C w' → wpList P l.toArray Q (l.drop n) a' w') (l.take n) a) : (Code.region id l.toArray true).wp P Q a w := by
  simp only [Region.lexTailB, Bool.and_eq_true, decide_eq_true_eq] at hB
  obtain ⟨⟨⟨⟨hsel, hn⟩, hs⟩, hc⟩, hlex⟩ := hB
  have hn' : n < l.length := by simpa using hn
  have htl : (l.take n).length = n := by simp; omega
  have hdl : (l.drop n).length = l.toArray.size - n := by simp
  have inv0 : HeadInv .any l.toArray n (Array.replicate l.toArray.size false) :=
    ⟨by simp, fun j oj _ hl => (by rw [getD_replicate_false] at hl; cases hl), fun t _ ht => getD_in (by simpa using ht) (getD_replicate_false _ _)⟩
  have H := headQ_lex (md := .any) (g := l.toArray.size - n) hsel hs hc hn (l.take n) 0 _ a (fun j hj => by
    have hj' : j < n := by rw [htl] at hj; exact hj
    simp [hj']) (by simpa using htl) inv0 (by rw [htl]; exact hlex) h
  refine wp_region_any hm ?_
  have := any_of_headQ (Q' := Q) (g := l.toArray.size - n) (fun listed a' w' hw' hL => by
    have := wpAny_of_seq (md := .any) (Q' := Q) (l.drop n) n listed a' w' (fun j => by simp [List.getElem?_drop]) (by rw [hdl]; exact hL.1) (hL.2 w' hw')
    rwa [hdl] at this) _ _ _ _ hC H
  rw [htl, show n + (l.toArray.size - n) = l.toArray.size by omega] at this
  exact this
/-- At the class 'every world that extends w'. -/
theorem wp_region_plus_tail {P : Program} {id : Nat} {Q : Exit → Act → World → Prop} {a : Act} {w : World} {l : List Oper} (n : Nat) (hm : P.follows .mixedOrders = true) (hB : Region.lexTailB .any l.toArray n = true)
    (h : wpQuiet P l.toArray (fun w' => ∃ x : Ex w, w' = plus w x) (fun a' => ∀ x : Ex w, wpList P l.toArray Q (l.drop n) a' (plus w x)) (l.take n) a) : (Code.region id l.toArray true).wp P Q a w := by
  refine wp_region_quiet_tail (C := fun w' => ∃ x : Ex w, w' = plus w x) n hm hB (ext_plus (Ext.refl w).drew) ?_
  have e : (fun a' => ∀ w', (∃ x : Ex w, w' = plus w x) → wpList P l.toArray Q (l.drop n) a' w') = (fun a' => ∀ x : Ex w, wpList P l.toArray Q (l.drop n) a' (plus w x)) := by
    funext a'
    exact propext ⟨fun h x => h _ ⟨x, rfl⟩, fun h w' ⟨x, hx⟩ => hx ▸ h x⟩
  rw [e]
  exact h

end Go.Proofs.YtgfknlkpdiejgaaGreatDoor

namespace Go.Proofs.YtgfknlkpdiejgaaGreatDoor
open Go Go.RowKit

section
variable {o : Oper} {a : Act} {w0 : World}
theorem PsAt.plus {w : World} {g k : Nat} {d : Pd} {sv : Value} (h : PsAt w g k d sv) (x : Ex w) : PsAt (plus w x) g k d sv := h.ext (plus_ext w x)
theorem NdAt.plus {w : World} {g k : Nat} {h : Hd} {sv : Value} (hn : NdAt w g k h sv) (x : Ex w) : NdAt (plus w x) g k h sv := hn.ext (plus_ext w x)
/-- The load of a whole parse in a drawn region that only grows. -/
theorem quiet_loadPs {K : Act → Prop} (x : Operand) (ho : o.op = .load 83 x) (g k : Nat) (d : Pd) (sv : Value) (hx : a.eval x = .pointer (some ⟨g, k, none⟩)) (hN : PsAt w0 g k d sv)
    (hK : K (a.put o.dst (psV d sv))) : o.quiet Tryz.prog a (fun w' => ∃ x : Ex w0, w' = plus w0 x) K := by
  refine ⟨psV d sv, fun w' hw' => ?_, hK⟩
  obtain ⟨y, rfl⟩ := hw'
  have hr := run_loadAt_mid (P := Tryz.prog) (plus w0 y) g k 83 (psC d sv) _ (fun j v hv => by
    have hj : j < 4 := (List.getElem?_eq_some_iff.1 hv).1
    rw [hN.plus y j hj, hv]) Tryz.underlying83 rfl info_ps
  unfold Oper.quietAt execOp
  simp only [ho, hx, Sem.run_bind, Sem.run_pure, Result.andThen_ok, hr]
  exact ⟨rfl, rfl⟩
/-- The load of a whole node in a drawn region that only grows. -/
theorem quiet_loadNd {K : Act → Prop} (x : Operand) (ho : o.op = .load 27 x) (g k : Nat) (d : Hd) (sv : Value) (hx : a.eval x = .pointer (some ⟨g, k, none⟩)) (hN : NdAt w0 g k d sv)
    (hK : K (a.put o.dst (nodeV d sv))) : o.quiet Tryz.prog a (fun w' => ∃ x : Ex w0, w' = plus w0 x) K := by
  refine ⟨nodeV d sv, fun w' hw' => ?_, hK⟩
  obtain ⟨y, rfl⟩ := hw'
  have hr := run_loadAt_mid (P := Tryz.prog) (plus w0 y) g k 27 (nodeC d sv) _ (fun j v hv => by
    have hj : j < 10 := (List.getElem?_eq_some_iff.1 hv).1
    rw [hN.plus y j hj, hv]) Tryz.underlying27 rfl info_nd
  unfold Oper.quietAt execOp
  simp only [ho, hx, Sem.run_bind, Sem.run_pure, Result.andThen_ok, hr]
  exact ⟨rfl, rfl⟩
end

theorem fullL_drop {ps : List Ps} {k : Nat} (h : k < ps.length) : fullL (ps.drop k) = (decide (ps[k].d.a ≠ ps[k].d.b) && fullL (ps.drop (k + 1))) := by
  rw [List.drop_eq_getElem_cons h]; rfl
theorem fullL_end {ps : List Ps} {k : Nat} (h : ps.length ≤ k) : fullL (ps.drop k) = true := by
  rw [List.drop_eq_nil_of_le h]; rfl

end Go.Proofs.YtgfknlkpdiejgaaGreatDoor

namespace Go.Proofs.YtgfknlkpdiejgaaGreatDoor
open Go Go.RowKit

theorem decide_ne {n : Nat} {k : Nat} (h : n ≠ k) : ((n : Int) == (k : Int)) = false := by
  rw [beq_eq_false_iff_ne]; omega
section
variable {s : ByteArray} {c e : Int} {x : Value}
end

end Go.Proofs.YtgfknlkpdiejgaaGreatDoor
