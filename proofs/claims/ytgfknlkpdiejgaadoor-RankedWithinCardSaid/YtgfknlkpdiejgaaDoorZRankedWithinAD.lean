/- Trees alike, in plain words. No program. Whole nodes loaded in a region's quiet head; two sets compared; a world that has drawn. No condition. Laws of the walk for parses taken whole: box, zero, load, store. No condition. A region that draws its order, whose first n operations are quiet in a class of worlds and whose others come last and one behind the other: one walk, in the order of the text. No condition. -/
import Derived.Test.YtgfknlkpdiejgaaDoorZRankedWithinAC
import Derived.Test.YtgfknlkpdiejgaaDoorNodeW
import Derived.StillTailTactics
import Derived.Test.YtgfknlkpdiejgaaDoorZRankedWithinAA
import Derived.Test.YtgfknlkpdiejgaaDoorLib
namespace Go.Proofs.YtgfknlkpdiejgaaDoor

def wordsB (p q : Nat → Bool) : Bool := decide ((wd p 0 : Int) = (wd q 0 : Int) ∧ (wd p 1 : Int) = (wd q 1 : Int) ∧ (wd p 2 : Int) = (wd q 2 : Int) ∧ (wd p 3 : Int) = (wd q 3 : Int))
def sameH (h h' : Hd) : Bool := decide (h.kind = h'.kind) && wordsB h.set h'.set && decide (h.num = h'.num) && decide (h.min = h'.min) && decide (h.max = h'.max) && (h.bare == h'.bare)
mutual
def sameN : Nd → Nd → Bool
  | .mk h s, .mk h' s' => sameH h h' && decide (s.length = s'.length) && sameL s s'
def sameL : List Nd → List Nd → Bool
  | [], _ => true
  | _ :: _, [] => true
  | a :: r, b :: r' => sameN a b && sameL r r'
end
theorem wordsB_refl (p : Nat → Bool) : wordsB p p = true := by simp [wordsB]
theorem sameH_refl (h : Hd) : sameH h h = true := by simp [sameH, wordsB_refl]
mutual
theorem sameN_refl : ∀ n, sameN n n = true
  | .mk h s => by simp [sameN, sameH_refl, sameL_refl s]
theorem sameL_refl : ∀ l, sameL l l = true
  | [] => by simp [sameL]
  | a :: r => by simp [sameL, sameN_refl a, sameL_refl r]
end
theorem sameL_app : ∀ (a b c d : List Nd), a.length = b.length → sameL (a ++ c) (b ++ d) = (sameL a b && sameL c d)
  | [], [], _, _, _ => by simp [sameL]
  | x :: a, y :: b, c, d, h => by
    show sameL (x :: (a ++ c)) (y :: (b ++ d)) = _
    rw [sameL, sameL, sameL_app a b c d (by simpa using h), Bool.and_assoc]
  | [], _ :: _, _, _, h => by cases h
  | _ :: _, [], _, _, h => by cases h
theorem sameL_one (a b : Nd) : sameL [a] [b] = sameN a b := by simp [sameL]
theorem sameL_step {s s' : List Nd} {k : Nat} (h : k < s.length) (h' : k < s'.length) (ht : sameL (s.take k) (s'.take k) = true) : sameL (s.take (k + 1)) (s'.take (k + 1)) = sameN s[k] s'[k] := by
  rw [take_snoc s k h, take_snoc s' k h', sameL_app _ _ _ _ (by simp; omega), ht, sameL_one, Bool.true_and]
theorem sameL_stop {s s' : List Nd} {k : Nat} (h : k < s.length) (h' : k < s'.length) (ht : sameN s[k] s'[k] = false) : sameL s s' = false := by
  have e : s = s.take k ++ s[k] :: s.drop (k + 1) := by rw [← List.drop_eq_getElem_cons h, List.take_append_drop]
  have e' : s' = s'.take k ++ s'[k] :: s'.drop (k + 1) := by rw [← List.drop_eq_getElem_cons h', List.take_append_drop]
  have h1 : sameL (s.take k ++ s[k] :: s.drop (k + 1)) (s'.take k ++ s'[k] :: s'.drop (k + 1)) = false := by
    rw [sameL_app _ _ _ _ (by simp; omega), sameL, ht, Bool.false_and, Bool.and_false]
  rw [← e, ← e'] at h1
  exact h1
theorem sameH_once {h h' : Hd} (hs : sameH h h' = true) : onceB h = onceB h' := by
  simp only [sameH, Bool.and_eq_true, decide_eq_true_eq] at hs
  obtain ⟨⟨⟨⟨⟨h1, _⟩, _⟩, h2⟩, h3⟩, _⟩ := hs
  simp only [onceB, h1, h2, h3]
mutual
theorem same_plain : ∀ (a b : Nd), sameN a b = true → plainN a = plainN b
  | .mk h s, .mk h' s', hs => by
    rw [sameN, Bool.and_eq_true, Bool.and_eq_true, decide_eq_true_eq] at hs
    rw [plainN, plainN, sameH_once hs.1.1, same_plainL s s' hs.1.2 hs.2]
theorem same_plainL : ∀ (a b : List Nd), a.length = b.length → sameL a b = true → plainL a = plainL b
  | [], [], _, _ => rfl
  | x :: a, y :: b, hl, hs => by
    rw [sameL, Bool.and_eq_true] at hs
    rw [plainL, plainL, same_plain x y hs.1, same_plainL a b (by simpa using hl) hs.2]
  | [], _ :: _, h, _ => by cases h
  | _ :: _, [], h, _ => by cases h
end
/-- A right tree is plain just if it is like its expansion. -/
theorem same_exp (n : Nd) (hf : formB n = true) : sameN (expN n) n = plainN n := by
  cases hp : plainN n
  · rw [Bool.eq_false_iff]
    intro h
    have := same_plain _ _ h
    rw [plain_exp n hf, hp] at this
    cases this
  · rw [exp_plain n hf hp, sameN_refl]

end Go.Proofs.YtgfknlkpdiejgaaDoor

namespace Go.Proofs.YtgfknlkpdiejgaaDoor
open Go Go.RowKit

/-- The load of a whole node in a region's quiet head. -/
theorem wpStill_loadNd {ops : Array Oper} {rest : List Oper} {o : Oper} {a : Act} {w : World} {Q : Act → Prop} (x : Operand) (ho : o.op = .load 27 x) (hw : Region.wanted o (yielded ops a.tmps) = true) (g k : Nat) (h : Hd) (sv : Value) (hx : a.eval x = .pointer (some ⟨g, k, none⟩)) (hN : NdAt w g k h sv)
    (hK : wpStill Tryd.prog ops w Q rest (a.put o.dst (nodeV h sv))) : wpStill Tryd.prog ops w Q (o :: rest) a := by
  unfold wpStill
  rw [if_pos hw]
  have hr := run_loadAt_mid (P := Tryd.prog) w g k 27 (nodeC h sv) _ (fun j v hv => by
    have hj : j < 10 := (List.getElem?_eq_some_iff.1 hv).1
    rw [hN j hj, hv]) Tryd.underlying27 rfl info_nd
  unfold Oper.still execOp
  simp only [ho, hx, Sem.run_bind, Sem.run_pure, Result.andThen_ok, hr]
  rw [Oper.stillUpon_value]
  exact hK
theorem neq_set (p q : Nat → Bool) (w : World) :
    (binOp .neq 24 (.agg #[.int .u64 (wd p 0 : Int), .int .u64 (wd p 1 : Int), .int .u64 (wd p 2 : Int), .int .u64 (wd p 3 : Int)]) (.agg #[.int .u64 (wd q 0 : Int), .int .u64 (wd q 1 : Int), .int .u64 (wd q 2 : Int), .int .u64 (wd q 3 : Int)])).run Tryd.prog w = .ok (.bool (!wordsB p q)) w := neq_words _ _ _ _ _ _ _ _ w
theorem NdAt.drew {w : World} {g o : Nat} {h : Hd} {sv : Value} (hn : NdAt w g o h sv) : NdAt w.drew g o h sv := fun i hi => hn i hi
theorem Ext.drewr {w w' : World} (h : Ext w w') : Ext w w'.drew := h.trans (Ext.drew (Ext.refl w'))

end Go.Proofs.YtgfknlkpdiejgaaDoor

namespace Go.Proofs.YtgfknlkpdiejgaaDoor
open Go Go.RowKit

theorem psA_size (d : Pd) (sv : Value) : (psA d sv).size = 4 := rfl
theorem psA_get (d : Pd) (sv : Value) (i : Nat) : (psA d sv)[i]? = (psC d sv)[i]? := by simp [psA]
theorem PsOk.sl {W : World} {n : Ps} {sv : Value} (h : PsOk W n sv) : isSl sv := by
  obtain ⟨A, c, rfl⟩ := h.shape
  exact ⟨_, _, _, rfl⟩
theorem psC_one {d : Pd} {sv : Value} (hs : isSl sv) : ∀ u ∈ psC d sv, u.oneCell' = true := by
  intro u hu
  simp only [psC, List.mem_cons, List.not_mem_nil, or_false] at hu
  rcases hu with rfl | rfl | rfl | rfl
  all_goals first | rfl | exact hs.one
theorem psA_one {d : Pd} {sv : Value} (hs : isSl sv) : (psA d sv).all (·.oneCell') = true := by
  rw [Array.all_eq_true_iff_forall_mem]
  intro x hx
  exact psC_one (d := d) hs x (by simpa [psA] using hx)

section
variable {ops : Array Oper} {rest : List Oper} {o : Oper} {a : Act} {w : World} {Q : Exit → Act → World → Prop}
end

end Go.Proofs.YtgfknlkpdiejgaaDoor

namespace Go.Proofs.YtgfknlkpdiejgaaDoor
open Go Go.RowKit

section
variable {P : Program} {ops : Array Oper} {md : Region.Mode} {C : World → Prop}

/-- f operations of the first n, whichever come up. -/
def headQ (P : Program) (md : Region.Mode) (ops : Array Oper) (C : World → Prop) (n : Nat) (L : Array Bool → Act → Prop) : Nat → Array Bool → Act → Prop
  | 0, listed, a => L listed a
  | f + 1, listed, a => Region.ready md ops listed ≠ [] ∧ ∀ i ∈ Region.ready md ops listed, i < n ∧ qOp P ops C i (headQ P md ops C n L f (listed.setIfInBounds i true)) a

theorem any_of_headQ {n g : Nat} {L : Array Bool → Act → Prop} {Q' : Exit → Act → World → Prop} (hL : ∀ listed a w, C w → L listed a → wpAny P md ops Q' g listed a w) :
    ∀ (f : Nat) (listed : Array Bool) (a : Act) (w : World), C w → headQ P md ops C n L f listed a → wpAny P md ops Q' (f + g) listed a w
  | 0, listed, a, w, hw, h => by rw [Nat.zero_add]; exact hL _ _ _ hw h
  | f + 1, listed, a, w, hw, h => by
    have e : f + 1 + g = (f + g) + 1 := by omega
    rw [e]
    exact ⟨fun h0 => absurd h0 h.1, fun i hi => wpOp_of_qOp hw (fun a' w' hw' h' => any_of_headQ hL f _ a' w' hw' h') (h.2 i hi).2⟩

theorem headQ_first {n i : Nat} {oi : Oper} {v : Value} {L : Array Bool → Act → Prop} (hi : ops[i]? = some oi) (hsel : ∀ (j : Nat) (o : Oper) cs b, ops[j]? = some o → o.op ≠ .select cs b)
    (hs : Region.sinkB md ops n = true) (hc : Region.chainB md ops n = true) (hn : n < ops.size) (hin : i < n)
    (hdone : ∀ listed a, L listed a → ∀ j ∈ Region.ready md ops listed, n ≤ j) :
    ∀ (f : Nat) (listed : Array Bool) (a : Act), HeadInv md ops n listed →
      (∀ j oj, ops[j]? = some oj → j ≠ i → listed.getD j true = false → (∀ e ∈ oj.after, Region.binds md e = true → e.on ≠ i) → oi.apart ops oj = true) →
      i ∈ Region.ready md ops listed → YieldsIn P ops C oi v a →
      headQ P md ops C n L f (listed.setIfInBounds i true) (a.put oi.dst v) → headQ P md ops C n L (f + 1) listed a := by
  intro f
  induction f with
  | zero =>
    intro listed a inv _ hr hy H
    refine ⟨fun h => (by rw [h] at hr; cases hr), fun j hj => ?_⟩
    have hjn : j < n := by
      rcases Nat.lt_or_ge j n with h | h
      · exact h
      · exact absurd hj (tail_waits hs hc hn inv _ i rfl hin (mem_ready.1 hr).1 j h)
    refine ⟨hjn, ?_⟩
    by_cases hji : j = i
    · subst hji; exact hy.qOp hi H
    · have := hdone _ _ H j (ready_mono hj hji)
      omega
  | succ f ih =>
    intro listed a inv hfree hr hy H
    have hun := (mem_ready.1 hr).1
    refine ⟨fun h => (by rw [h] at hr; cases hr), fun j hj => ?_⟩
    have hjn : j < n := by
      rcases Nat.lt_or_ge j n with h | h
      · exact h
      · exact absurd hj (tail_waits hs hc hn inv _ i rfl hin hun j h)
    refine ⟨hjn, ?_⟩
    by_cases hji : j = i
    · subst hji; exact hy.qOp hi H
    · have h1 := (H.2 j (ready_mono hj hji)).2
      obtain ⟨hjun, oj, hoj, hall⟩ := mem_ready.1 hj
      have hnot : ∀ e ∈ oj.after, Region.binds md e = true → e.on ≠ i := fun e he hb heq => by
        have h1 := hall e he hb
        rw [heq, getD_both hun] at h1
        cases h1
      have h2 := qOp_put hoj (hfree j oj hoj hji hjun hnot) (fun cs b => hsel i oi cs b hi) (fun cs b => hsel j oj cs b hoj) hy h1
      refine qOp_mono (fun a' h3 => ih (listed.setIfInBounds j true) a' (inv.set hj hjn) (fun k ok hk hki hk2 hno => ?_) (ready_mono hr (Ne.symm hji)) h3.1 ?_) h2
      · refine hfree k ok hk hki ?_ hno
        by_cases hjk : j = k
        · subst hjk; exact hjun
        · rw [getD_set_ne true hjk] at hk2; exact hk2
      · rw [Array.setIfInBounds_comm _ _ hji]
        exact h3.2

theorem headQ_lex {n g : Nat} {Lq : Act → Prop} (hsel : Region.noSelect ops = true) (hs : Region.sinkB md ops n = true) (hc : Region.chainB md ops n = true) (hn : n < ops.size) :
    ∀ (l : List Oper) (k : Nat) (listed : Array Bool) (a : Act), (∀ j, j < l.length → l[j]? = ops[k + j]?) → k + l.length = n → HeadInv md ops n listed →
    Region.lexHead md ops g l.length k listed = true → wpQuiet P ops C Lq l a →
    headQ P md ops C n (fun listed' a' => Region.seqB md ops g n listed' = true ∧ Lq a') l.length listed a
  | [], k, listed, a, _, hk, _, hB, h => by
    have : k = n := by simpa using hk
    subst this
    exact ⟨by simpa [Region.lexHead] using hB, h⟩
  | o :: l, k, listed, a, hl, hk, inv, hB, h => by
    have h0 : ops[k]? = some o := by simpa using (hl 0 (by simp)).symm
    simp only [List.length_cons, Region.lexHead, Bool.and_eq_true] at hB
    obtain ⟨⟨hr, hf⟩, hB'⟩ := hB
    have hkn : k < n := by simp only [List.length_cons] at hk; omega
    have hr' : k ∈ Region.ready md ops listed := by simpa using hr
    have hst : qOp P ops C k (wpQuiet P ops C Lq l) a := by unfold qOp; simp only [h0]; exact h
    obtain ⟨v, hy, hK⟩ := yieldsIn_of_qOp h0 hst
    exact headQ_first h0 (Region.noSelect_spec hsel) hs hc hn hkn (fun listed' a' hL => seqB_ready hL.1) l.length listed a inv (Region.free_spec h0 hf) hr' hy
      (headQ_lex hsel hs hc hn l (k + 1) _ _ (fun j hj => by have := hl (j + 1) (by simp; omega); simpa [Nat.add_assoc, Nat.add_comm 1 j] using this) (by simp only [List.length_cons] at hk; omega) (inv.set hr' hkn) hB' hK)
end

/-- The law: the first n operations in every world of the class, what comes behind them from every such world. -/
theorem wp_region_quiet_tail {P : Program} {C : World → Prop} {id : Nat} {Q : Exit → Act → World → Prop} {a : Act} {w : World} {l : List Oper} (n : Nat) (hm : P.follows .mixedOrders = true) (hB : Region.lexTailB .any l.toArray n = true)
    (hC : C { w with drawn := w.drawn + 1 }) (h : wpQuiet P l.toArray C (fun a' => ∀ w', C w' → wpList P l.toArray Q (l.drop n) a' w') (l.take n) a) : (Code.region id l.toArray true).wp P Q a w := by
  simp only [Region.lexTailB, Bool.and_eq_true, decide_eq_true_eq] at hB
  obtain ⟨⟨⟨⟨hsel, hn⟩, hs⟩, hc⟩, hlex⟩ := hB
  have hn' : n < l.length := by simpa using hn
  have htl : (l.take n).length = n := by simp; omega
  have hdl : (l.drop n).length = l.toArray.size - n := by simp
  have inv0 : HeadInv .any l.toArray n (Array.replicate l.toArray.size false) :=
    ⟨by simp, fun j oj _ hl => (by rw [getD_replicate_false] at hl; cases hl), fun t _ ht => getD_in (by simpa using ht) (getD_replicate_false _ _)⟩
  have H := headQ_lex (md := .any) (g := l.toArray.size - n) hsel hs hc hn (l.take n) 0 _ a (fun j hj => by
    have hj' : j < n := by rw [htl] at hj; exact hj
    simp [hj']) (by simpa using htl) inv0 (by rw [htl]; exact hlex) h
  refine wp_region_any hm ?_
  have := any_of_headQ (Q' := Q) (g := l.toArray.size - n) (fun listed a' w' hw' hL => by
    have := wpAny_of_seq (md := .any) (Q' := Q) (l.drop n) n listed a' w' (fun j => by simp [List.getElem?_drop]) (by rw [hdl]; exact hL.1) (hL.2 w' hw')
    rwa [hdl] at this) _ _ _ _ hC H
  rw [htl, show n + (l.toArray.size - n) = l.toArray.size by omega] at this
  exact this
/-- At the class 'every world that extends w'. -/
theorem wp_region_plus_tail {P : Program} {id : Nat} {Q : Exit → Act → World → Prop} {a : Act} {w : World} {l : List Oper} (n : Nat) (hm : P.follows .mixedOrders = true) (hB : Region.lexTailB .any l.toArray n = true)
    (h : wpQuiet P l.toArray (fun w' => ∃ x : Ex w, w' = plus w x) (fun a' => ∀ x : Ex w, wpList P l.toArray Q (l.drop n) a' (plus w x)) (l.take n) a) : (Code.region id l.toArray true).wp P Q a w := by
  refine wp_region_quiet_tail (C := fun w' => ∃ x : Ex w, w' = plus w x) n hm hB (ext_plus (Ext.refl w).drew) ?_
  have e : (fun a' => ∀ w', (∃ x : Ex w, w' = plus w x) → wpList P l.toArray Q (l.drop n) a' w') = (fun a' => ∀ x : Ex w, wpList P l.toArray Q (l.drop n) a' (plus w x)) := by
    funext a'
    exact propext ⟨fun h x => h _ ⟨x, rfl⟩, fun h w' ⟨x, hx⟩ => hx ▸ h x⟩
  rw [e]
  exact h

end Go.Proofs.YtgfknlkpdiejgaaDoor
