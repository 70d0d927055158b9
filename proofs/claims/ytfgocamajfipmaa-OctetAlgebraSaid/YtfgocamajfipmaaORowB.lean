/- The statements' own helper trawllaw01.rows as a contract: the rows, or the first of them. No condition. -/
import Derived.RangeFuncFrom
import Derived.RangeFuncBox
import Derived.Maps.AppendAt
import Derived.Test.YtfgocamajfipmaaORowI
namespace Go.Proofs.Ytfgocamajfipmaa
open Go.RowKit Go.Shelf
attribute [local go_sem] Oper.semAt_some

/-- The blocks that are no cells and lie from B on. -/
def noC (B : Nat) (W : World) : Nat → Prop := fun k => B ≤ k ∧ ∃ o : Obj, W.heap[k]? = some o ∧ o.isCells = false
theorem keeps_noC {W W' : World} {row : Option Nat} {B : Nat} (hg : W.grownBy W' row) (hr : ∀ r, row = some r → B ≤ r ∧ ∃ o : Obj, W.heap[r]? = some o ∧ o.isCells = false) : Keeps (noC B W) W W' :=
  ⟨hg.os, hg.tape, hg.output, hg.size, fun k hk hf => hg.block k hk (fun e => hf (hr k e.symm))⟩
theorem Blk.notC {W : World} {g B : Nat} {t : TypeId} {cs : Array Value} (h : Blk W g t cs) : ¬ noC B W g := fun hf => by
  obtain ⟨_, o, h1, h2⟩ := hf
  unfold Blk at h
  rw [h] at h1
  simp only [Option.some.injEq] at h1
  subst h1
  cases h2
theorem OwnR.keeps {w w' : World} {F : Nat → Prop} {B : Nat} {v : Value} {l : List (Nat × Nat)} (h : OwnR w B v l) (k : Keeps F w w') (hv : ∀ i, v.ownBlock = some i → ¬ F i) : OwnR w' B v l := by
  obtain ⟨h1, h2⟩ := h
  refine ⟨h1, ?_⟩
  rcases h2 with h2 | ⟨g, cap, cur, rfl, hg, hh, r⟩
  · exact .inl h2
  · exact .inr ⟨g, cap, cur, rfl, hg, Blk.keeps (t := 36) (cs := cur) hh k (hv g rfl), r⟩
theorem OwnR.keepsC {w w' : World} {B C : Nat} {v : Value} {l : List (Nat × Nat)} (h : OwnR w B v l) (k : Keeps (noC C w) w w') : OwnR w' B v l := h.keeps k (fun i hi => by
  obtain ⟨_, cu, hcu⟩ := h.blk i hi
  exact hcu.notC)
theorem Ext.keepsC {w0 w w' : World} {C : Nat} (h : Ext w0 w) (k : Keeps (noC C w) w w') (hC : w0.heap.size ≤ C) : Ext w0 w' := h.keeps k (fun i hi hf => by have := hf.1; omega)

/-- The rows, or the first most of them. -/
def cutR (R : List (Nat × Nat)) (most : Int) : List (Nat × Nat) := if 1 ≤ most ∧ most ≤ (R.length : Int) then R.take most.toNat else R

theorem OwnR.base {w : World} {B B' : Nat} {v : Value} {l : List (Nat × Nat)} (h : OwnR w B v l) (hb : B' ≤ B) : OwnR w B' v l := by
  obtain ⟨h1, h2⟩ := h
  refine ⟨h1, ?_⟩
  rcases h2 with h2 | ⟨g, cap, cur, hv, hg, r⟩
  · exact .inl h2
  · exact .inr ⟨g, cap, cur, hv, Nat.le_trans hb hg, r⟩
theorem OwnR.put {w : World} {B : Nat} {v : Value} {l : List (Nat × Nat)} (h : OwnR w B v l) {d : Nat} {o : Obj} (o' : Obj) (hd : w.heap[d]? = some o) (ho : o.isCells = false) : OwnR (w.putObj d o') B v l := ownsRow_putObj h o' hd ho
theorem OwnR.setFar {w : World} {B b : Nat} {v u : Value} {l : List (Nat × Nat)} (h : OwnR w B v l) (x : Value) {t : TypeId} (hb : Boxed w b t u) (ht : t ≠ 36) : OwnR (w.setCell ⟨b, 0, none⟩ x) B v l := h.kept (grownBy_setCell' w b x) (.inr (hb.not_row ht h).symm)
/-- The same inside a walk under a fence. -/
theorem wpListIn_appR {F : Fence} {n : Nat} {w : World} {ops : Array Oper} {rest : List Oper} {o : Oper} {a : Act} {Q : Exit → Act → World → Prop} (hgd : o.guard = none) (s x : Operand)
    (ho : o.op = .call { callee := .builtin .append, args := #[s, x], argTypes := #[31, 31] })
    (B : Nat) (v : Value) (l : List (Nat × Nat)) (hs : a.eval s = v) (hown : OwnR w B v l) (g c lo hi : Nat) (hx : a.eval x = .slice (some ⟨g, 0, none⟩) 1 c)
    (h0 : w.cell? ⟨g, 0, none⟩ = some (.int .u8 (lo : Int))) (h1 : w.cell? ⟨g, 1, none⟩ = some (.int .u8 (hi : Int))) (hl : l.length ≤ 1000000) (hbase : B ≤ w.heap.size)
    (h : ∀ v' w', OwnR w' B v' (l ++ [(lo, hi)]) → w.grownBy w' v.ownBlock → wpListIn F n Try.prog ops Q rest (a.put o.dst v') w') : wpListIn F n Try.prog ops Q (o :: rest) a w := by
  obtain ⟨v', w', hr, h2, h3, _, _⟩ := run_appR w B o.type v l hown g c lo hi h0 h1 hl hbase
  refine wpListIn_plain hgd fun K hK => ?_
  unfold Oper.wpIn
  refine ⟨?_, ?_⟩
  · simp [Oper.about, ho, resolve, Target.leads, Sem.run_pure]
  · rw [Oper.semAt_plain F _ _ (by rw [ho]; intro c hc'; cases hc')]
    simp [execOp, ho, resolve, invoke, builtin, hs, hx, hr, Result.andThen]
    exact hK _ _ (h v' w' h2 h3)

theorem Boxed.under {W W' : World} {b B : Nat} {t : TypeId} {v : Value} (h : Boxed W b t v) (hb : Below B W W') (hg : b < B) : Boxed W' b t v := (hb.block b hg).trans h
/-- What the loop of rows keeps. -/
def rowsI (w : World) (b1 b2 b3 b5 : Nat) (most : Int) (pre : List (Nat × Nat)) (W : World) : Prop :=
  (∃ v, Boxed W b5 31 v ∧ OwnR W b5 v pre) ∧ Boxed W b1 3 (.int .i64 most) ∧ Boxed W b2 31 (.slice none 0 0) ∧ Boxed W b3 4 (.bool false) ∧ Ext w W
theorem Boxed.noC {W W' : World} {C B : Nat} {t : TypeId} {v : Value} (h : Boxed W B t v) (k : Keeps (noC C W) W W') : Boxed W' B t v := Blk.keeps (t := t) (cs := #[v]) h k (Blk.notC (t := t) (cs := #[v]) h)
theorem rowsI_own (w : World) (b1 b2 b3 b5 : Nat) (most : Int) (C : Nat) (hC : w.heap.size ≤ C) : OwnFrom C (rowsI w b1 b2 b3 b5 most) := fun s A B row hs hg hr => by
  have hk := keeps_noC hg hr
  obtain ⟨⟨v, h1, h2⟩, h3, h4, h5, h6⟩ := hs
  exact ⟨⟨v, Boxed.noC h1 hk, h2.keepsC hk⟩, Boxed.noC h3 hk, Boxed.noC h4 hk, Boxed.noC h5 hk, h6.keepsC hk hC⟩

/-- The two results written, and the block of the deferred calls turned. -/
theorem rowsEnd {w W : World} {b2 b3 b5 D : Nat} {x : Value} {l : List (Nat × Nat)} (hO : OwnR W b5 x l) (g2 : Boxed W b2 31 (.slice none 0 0)) (g3 : Boxed W b3 4 (.bool false)) (gx : Ext w W)
    (hK : W.heap[D]? = some (.deferred (some []))) (hb : w.heap.size ≤ b2) (h23 : b2 < b3) (hD : w.heap.size ≤ D) (hB : w.heap.size ≤ b5) :
    ((W.setCell ⟨b2, 0, none⟩ x).setCell ⟨b3, 0, none⟩ (.bool true)).heap[D]? = some (.deferred (some [])) ∧
    Boxed (((W.setCell ⟨b2, 0, none⟩ x).setCell ⟨b3, 0, none⟩ (.bool true)).putObj D (.deferred none)) b2 31 x ∧
    Boxed (((W.setCell ⟨b2, 0, none⟩ x).setCell ⟨b3, 0, none⟩ (.bool true)).putObj D (.deferred none)) b3 4 (.bool true) ∧
    OwnR (((W.setCell ⟨b2, 0, none⟩ x).setCell ⟨b3, 0, none⟩ (.bool true)).putObj D (.deferred none)) w.heap.size x l ∧
    Ext w (((W.setCell ⟨b2, 0, none⟩ x).setCell ⟨b3, 0, none⟩ (.bool true)).putObj D (.deferred none)) := by
  have hKX := (KeepsOthers.setCell (W.setCell ⟨b2, 0, none⟩ x) ⟨b3, 0, none⟩ (.bool true)).same D _ ((KeepsOthers.setCell W ⟨b2, 0, none⟩ x).same D _ hK rfl) rfl
  have e2 := (g2.set x).kept (grownBy_setCell' _ b3 (.bool true)) (by simp; omega)
  have e3 := (g3.kept (grownBy_setCell' W b2 x) (by simp; omega)).set (.bool true)
  have eO := (hO.setFar x g2 (by decide)).setFar (.bool true) (g3.kept (grownBy_setCell' W b2 x) (by simp; omega)) (by decide)
  have eX := (gx.setCell (p := ⟨b2, 0, none⟩) hb x).setCell (p := ⟨b3, 0, none⟩) (by simp; omega) (.bool true)
  generalize (W.setCell ⟨b2, 0, none⟩ x).setCell ⟨b3, 0, none⟩ (.bool true) = X at *
  refine ⟨hKX, e2.kept (grownBy_putObj' X D _) (fun e => ?_), e3.kept (grownBy_putObj' X D _) (fun e => ?_), (eO.put _ hKX rfl).base hB, Below.trans eX (belowK_b (w := w) (Nat.le_refl _) X D _ _ hD hKX rfl rfl)⟩
  · cases e; rw [show X.heap[b2]? = _ from e2] at hKX; cases hKX
  · cases e; rw [show X.heap[b3]? = _ from e3] at hKX; cases hKX

set_option maxRecDepth 100000 in
set_option maxHeartbeats 4000000 in
theorem rows_any (p : Nat → Bool) (most : Int) (w : World) :
    Calls Try.prog 15 #[setV p, .int .i64 most] w fun r w' => ∃ v, r = .returned (.tuple #[v, .bool true]) ∧ OwnR w' w.heap.size v (cutR (rowsTo p 256) most) ∧ Ext w w' := by
  have HRM := Lib.hid (fun W => rows_made p W)
  have hNN := rowsTo_len p 256
  have hnil : ∀ (x : Array Value) (W : World), (binOp BinOp.eql 38 (.func (.func 23) #[] x) .nilFunc).run Try.prog W = .ok (.bool false) W := fun _ _ => by kernel_rfl
  unfold setV u64v
  refine (callsIn_wide (n := 4)).1 ?_
  refine callsIn_of_wp_marks Try.func15 rfl trivial ?_ rfl
  simp only [Try.ntmps15, List.size_toArray, List.length_cons, List.length_nil, Nat.reduceAdd, Nat.reduceSub, Array.replicate_succ, Array.replicate_zero, List.push_toArray, List.append_toArray, List.nil_append, List.cons_append]
  gi_wp2_with (refine ⟨trivial, ?_⟩; gi_at_call 16; refine (callsIn_wide.2 (HRM.out _)).mono ?_; rintro e w1 ⟨rfl, rfl⟩)
  have f0 : Ext w (w.alloc (.cells #[.int .u64 (wd p 0 : Int), .int .u64 (wd p 1 : Int), .int .u64 (wd p 2 : Int), .int .u64 (wd p 3 : Int)] 25)) := (Ext.refl w).alloc _
  have z0 := World.size_alloc w (.cells #[.int .u64 (wd p 0 : Int), .int .u64 (wd p 1 : Int), .int .u64 (wd p 2 : Int), .int .u64 (wd p 3 : Int)] 25)
  generalize w.alloc (.cells #[.int .u64 (wd p 0 : Int), .int .u64 (wd p 1 : Int), .int .u64 (wd p 2 : Int), .int .u64 (wd p 3 : Int)] 25) = w1 at *
  have n1 := Boxed.new w1 3 (.int .i64 most)
  have f1 := f0.alloc (.cells #[.int .i64 most] 3)
  have z1 := World.size_alloc w1 (.cells #[.int .i64 most] 3)
  generalize w1.alloc (.cells #[.int .i64 most] 3) = w2 at *
  have n2 := Boxed.new w2 31 (.slice none 0 0)
  have f2 := f1.alloc (.cells #[.slice none 0 0] 31)
  replace n1 := n1.alloc (.cells #[.slice none 0 0] 31)
  have z2 := World.size_alloc w2 (.cells #[.slice none 0 0] 31)
  generalize w2.alloc (.cells #[.slice none 0 0] 31) = w3 at *
  have n3 := Boxed.new w3 4 (.bool false)
  have f3 := f2.alloc (.cells #[.bool false] 4)
  replace n1 := n1.alloc (.cells #[.bool false] 4)
  replace n2 := n2.alloc (.cells #[.bool false] 4)
  have z3 := World.size_alloc w3 (.cells #[.bool false] 4)
  generalize w3.alloc (.cells #[.bool false] 4) = w4 at *
  have n4 : Blk (w4.alloc (.cells (setC p) 25)) w4.heap.size 25 (setC p) := Blk.new w4 _ _
  have f4 := f3.alloc (.cells (setC p) 25)
  replace n1 := n1.alloc (.cells (setC p) 25)
  replace n2 := n2.alloc (.cells (setC p) 25)
  replace n3 := n3.alloc (.cells (setC p) 25)
  have z4 := World.size_alloc w4 (.cells (setC p) 25)
  change Code.wpIn Fence.wide 4 Try.prog _ _ _ ((w4.alloc (.cells (setC p) 25)).alloc _)
  generalize w4.alloc (.cells (setC p) 25) = w5 at *
  have n5 := Boxed.new w5 31 (.slice none 0 0)
  have f5 := f4.alloc (.cells #[.slice none 0 0] 31)
  replace n1 := n1.alloc (.cells #[.slice none 0 0] 31)
  replace n2 := n2.alloc (.cells #[.slice none 0 0] 31)
  replace n3 := n3.alloc (.cells #[.slice none 0 0] 31)
  replace n4 := n4.alloc (.cells #[.slice none 0 0] 31)
  have z5 := World.size_alloc w5 (.cells #[.slice none 0 0] 31)
  generalize w5.alloc (.cells #[.slice none 0 0] 31) = w6 at *
  rw [← z0, ← z1, ← z2, ← z3, ← z4]
  generalize w1.heap.size = b1 at *
  generalize w2.heap.size = b2 at *
  generalize w3.heap.size = b3 at *
  generalize w4.heap.size = b4 at *
  generalize w5.heap.size = b5 at *
  clear f0 f1 f2 f3 f4
  have y0 : w.heap.size < b1 := by omega
  have y1 : b1 < b2 := by omega
  have y2 : b2 < b3 := by omega
  have y3 : b3 < b4 := by omega
  have y4 : b4 < b5 := by omega
  have y5 : b5 < w6.heap.size := by omega
  clear z0 z1 z2 z3 z4 z5
  refine wpIn_rangeFunc_ownF rfl (by omega) (gf := 23) (lb := #[.pointer (some ⟨b4, 0, none⟩)]) rfl trivial (enters_of Try.func23 (by kernel_rfl) rfl)
    (rows_stops 3 (by omega) b4 b5 p w6 (by omega) n4) belowK_t (belowK_b (by omega)) (Below.refl _ _) (fun _ => rfl)
    (fun pre W => rowsI w b1 b2 b3 b5 most pre W ∧ ¬ (1 ≤ most ∧ most ≤ (pre.length : Int)))
    (fun c pre W => c = .exit 0 ∧ (pre.length : Int) = most ∧ 1 ≤ most ∧ rowsI w b1 b2 b3 b5 most pre W)
    (fun s A B row hs hg hr => ⟨rowsI_own w b1 b2 b3 b5 most _ (by omega) s A B row hs.1 hg hr, hs.2⟩)
    (fun c s A B row hs hg hr => ⟨hs.1, hs.2.1, hs.2.2.1, rowsI_own w b1 b2 b3 b5 most _ (by omega) s A B row hs.2.2.2 hg hr⟩)
    ⟨⟨⟨_, n5, OwnR.nil _ _⟩, n1, n2, n3, f5⟩, by simp; omega⟩
    ?a1 ?assign ?body ?done ?stop
  case assign =>
    intro l x W K hK
    gi_wp2
    exact hK
  case body =>
    rintro l pre x W ⟨⟨⟨v, hv, hO⟩, g1, g2, g3, gx⟩, hno⟩ hlt
    have hpl : pre.length < 256 := by omega
    have c5 := hv.cell
    have c1 := g1.cell
    obtain ⟨ad, cc, rfl⟩ := hO.shape
    have hx4 : Ext W (W.alloc (.cells #[.int .u8 (x.1 : Int), .int .u8 (x.2 : Int)] 36)) := (Ext.refl W).alloc _
    have hb4 : Blk (W.alloc (.cells #[.int .u8 (x.1 : Int), .int .u8 (x.2 : Int)] 36)) W.heap.size 36 #[.int .u8 (x.1 : Int), .int .u8 (x.2 : Int)] := Blk.new W _ _
    have e0 : (W.alloc (.cells #[.int .u8 (x.1 : Int), .int .u8 (x.2 : Int)] 36)).cell? ⟨W.heap.size, 0, none⟩ = some (.int .u8 (x.1 : Int)) := hb4.cell 0
    have e1 : (W.alloc (.cells #[.int .u8 (x.1 : Int), .int .u8 (x.2 : Int)] 36)).cell? ⟨W.heap.size, 1, none⟩ = some (.int .u8 (x.2 : Int)) := hb4.cell 1
    have hz := hv.lt
    have HH := Lib.hid (⟨e0, e1, hO.ext hx4, hx4.size⟩ : _ ∧ _ ∧ _ ∧ _)
    have ne1 := y1
    have HO := Lib.hid hO
    have hno' : ¬ (1 ≤ most ∧ most ≤ (pre.length : Int)) := hno
    clear e0 e1 hb4 hO hx4 hno HRM hnil n1 n2 n3 n4 n5 f5
    by_cases hm : ((pre.length + 1 : Nat) : Int) = most
    all_goals
      gi_wp2_with (gi_at_builtin; refine wpListIn_appR rfl (.tmp 17) (.tmp 21) rfl b5 (.slice ad pre.length cc) pre rfl HH.out.2.2.1 W.heap.size 1 x.1 x.2 rfl HH.out.1 HH.out.2.1 (by omega) (by have := HH.out.2.2.2; omega) ?_; intro v4 w4 own4 hg4; obtain ⟨ad4, c4, ev4⟩ := own4.shape; rw [show (pre ++ [(x.1, x.2)]).length = pre.length + 1 by simp] at ev4; subst ev4; obtain ⟨hv1, hv2, hr2, hk2, hb2⟩ := hv.appended (by decide) HO.out (Nat.le_of_lt hz) (Nat.le_refl _) own4 hg4; have q1 := Boxed.kept (g1.alloc _) hg4 (g1.not_row (by decide) HO.out); have hc4 := hv1.cell; have hf4 := hv1.frozen; have hc5 := hv2.cell; have hc6 := q1.cell; have HR := Lib.hid (⟨hv2, hr2, hk2, hb2⟩ : _ ∧ _ ∧ _ ∧ _); clear hv1 hv2 hr2 hk2 hb2 hg4 own4 q1)
      obtain ⟨r1, r2, r3, r4⟩ := HR.out
      have hI : rowsI w b1 b2 b3 b5 most (pre ++ [x]) (w4.setCell ⟨b5, 0, none⟩ (.slice ad4 (pre.length + 1) c4)) := ⟨⟨_, r1, r2⟩, Boxed.under g1 r4 (by omega), Boxed.under g2 r4 (by omega), Boxed.under g3 r4 (by omega), gx.of_below r4 (by omega)⟩
      first
        | exact ⟨r3, rfl, by rw [← hm]; simp, by omega, hI⟩
        | exact ⟨r3, r4, hI, by rw [show (pre ++ [x]).length = pre.length + 1 by simp]; omega⟩
  all_goals clear HRM hnil n1 n2 n3 n4 n5 f5
  case done =>
    rintro D xs W hD rfl ⟨⟨⟨v, hv, hO⟩, g1, g2, g3, gx⟩, hno⟩ hK
    have hcut := Lib.hid (show cutR (rowsTo p 256) most = rowsTo p 256 from if_neg hno)
    have hf := rowsEnd (x := v) hO g2 g3 gx hK (by omega) (by omega) (by omega) (by omega)
    obtain ⟨ad, cc, rfl⟩ := hO.shape
    have c5 := hv.cell
    have c2 := g2.cell
    have c3 := g3.cell
    have k2 := g2.frozen
    have k3 := g3.frozen
    have hF := Lib.hid hf
    clear hf
    gi_wp2
    obtain ⟨h1, h2, h3, h4, h5⟩ := hF.out
    refine ⟨by simp, .inl ⟨_, _, rfl, run_takeDeferred h1, ?_⟩⟩
    refine ⟨_, ?_, _, rfl, by rw [hcut.out]; exact h4, h5⟩
    have h2 := h2.cell
    have h3 := h3.cell
    simp [results, Try.f15, go_sem, h2, h3]
  case stop =>
    rintro D c pre W hD hSp ⟨rfl, hm, h1m, ⟨⟨v, hv, hO⟩, g1, g2, g3, gx⟩⟩ hK
    have hcut := Lib.hid (show cutR (rowsTo p 256) most = pre by
      have hl := hSp.length_le
      rw [cutR, if_pos ⟨h1m, by omega⟩, ← hm, Int.toNat_natCast]
      exact (List.prefix_iff_eq_take.1 hSp).symm)
    have hf := rowsEnd (x := v) hO g2 g3 gx hK (by omega) (by omega) (by omega) (by omega)
    obtain ⟨ad, cc, rfl⟩ := hO.shape
    have c5 := hv.cell
    have c2 := g2.cell
    have c3 := g3.cell
    have k2 := g2.frozen
    have k3 := g3.frozen
    have hF := Lib.hid hf
    clear hf hm hSp
    gi_wp2
    obtain ⟨h1, h2, h3, h4, h5⟩ := hF.out
    refine ⟨by simp, .inl ⟨_, _, rfl, run_takeDeferred h1, ?_⟩⟩
    refine ⟨_, ?_, _, rfl, by rw [hcut.out]; exact h4, h5⟩
    have h2 := h2.cell
    have h3 := h3.cell
    simp [results, Try.f15, go_sem, h2, h3]

end Go.Proofs.Ytfgocamajfipmaa
