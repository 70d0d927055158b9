/- Small lemmas about worlds that the walks share: a block that is known whole, and a world that extends another one. No condition. -/
import Derived.WalkKit
import Derived.WalkSpells
import Derived.WalkLawsBesides
import Derived.Deep.QuietTactic
import Derived.BigQuiet
import Derived.Lib.Hide
import Derived.Deep.DeepCutAuto
import Derived.Deep.DeepFit
import Derived.Handy
import Derived.Maps.AppendAt
import Derived.Deep.AppendLies
namespace Go.Proofs.YtgfknlkpdiejgaaGreatDoor
open Go.RowKit

/-- Block g holds just these cells, of this element type; none is frozen. -/
def Blk (w : World) (g : Nat) (t : TypeId) (cs : Array Value) : Prop := w.heap[g]? = some (.cells cs t (0, 0))

/-- w' is w, and more: what w has is as it was. -/
def Ext (w w' : World) : Prop := Below w.heap.size w w'

section
variable {w w' w'' : World} {g g' : Nat} {t t' : TypeId} {cs cs' : Array Value}

theorem Ext.refl (w : World) : Ext w w := Below.refl _ _
theorem Ext.trans (h : Ext w w') (k : Ext w' w'') : Ext w w'' := Below.trans h (Below.mono k h.size)
theorem Ext.drew (h : Ext w w') : Ext w w'.drew := Below.drew h
theorem Ext.drewN (h : Ext w w') (n : Nat) : Ext w (w'.drewN n) := ⟨h.os, h.tape, h.output, h.size, h.block⟩
theorem Ext.alloc (h : Ext w w') (o : Obj) : Ext w (w'.alloc o) := Below.alloc h h.size o
theorem Ext.setCell (h : Ext w w') {p : Addr} (hp : w.heap.size ≤ p.block) (u : Value) : Ext w (w'.setCell p u) := Below.setCell h hp u
theorem Ext.size (h : Ext w w') : w.heap.size ≤ w'.heap.size := Below.size h
theorem Ext.cell (h : Ext w w') {p : Addr} {v : Value} (hp : w.cell? p = some v) : w'.cell? p = some v :=
  (Below.cell h (World.block_lt_of_cell? w p hp)).trans hp

theorem Blk.lt (h : Blk w g t cs) : g < w.heap.size := by
  rcases Nat.lt_or_ge g w.heap.size with hlt | hge
  · exact hlt
  · unfold Blk at h; rw [Array.getElem?_eq_none hge] at h; cases h
theorem Blk.cell (h : Blk w g t cs) (i : Nat) : w.cell? ⟨g, i, none⟩ = cs[i]? := by
  unfold Blk at h; simp [World.cell?, h]
theorem Blk.frozen (h : Blk w g t cs) (i : Nat) : w.frozen? ⟨g, i, none⟩ = false := by
  unfold Blk at h; simp [World.frozen?, h]
theorem Blk.new (w : World) (t : TypeId) (cs : Array Value) : Blk (w.alloc (.cells cs t)) w.heap.size t cs := heap_alloc_new w _
theorem Blk.drew (h : Blk w g t cs) : Blk w.drew g t cs := h
theorem Blk.drewN (h : Blk w g t cs) (n : Nat) : Blk (w.drewN n) g t cs := h
theorem Blk.alloc (h : Blk w g t cs) (o : Obj) : Blk (w.alloc o) g t cs := (Below.heap_alloc w o g h.lt).trans h
theorem Blk.set (h : Blk w g t cs) (i : Nat) (u : Value) : Blk (w.setCell ⟨g, i, none⟩ u) g t (cs.setIfInBounds i u) := by
  unfold Blk at h ⊢
  simp [World.setCell, Array.getElem?_modify, h]
theorem Blk.far (h : Blk w g t cs) {p : Addr} (hp : g ≠ p.block) (u : Value) : Blk (w.setCell p u) g t cs := (Below.heap_setCell w p u g hp).trans h
theorem Blk.ext (h : Blk w g t cs) (hb : Ext w w') : Blk w' g t cs := (Below.block hb g h.lt).trans h
theorem Blk.below {B : Nat} (h : Blk w g t cs) (hb : Below B w w') (hg : g < B) : Blk w' g t cs := (hb.block g hg).trans h
theorem Blk.ne (h : Blk w g t cs) (h' : Blk w g' t' cs') (hne : t ≠ t') : g ≠ g' := by
  rintro rfl
  unfold Blk at h h'
  rw [h] at h'
  injection h' with h'
  injection h' with _ ht
  exact hne ht
end

/-- The worlds that extend w, as a type: so that 'every world that extends w' reads 'w.plus x' in a walk. -/
structure Ex (w : World) where
  wd : World
  ext : Ext w wd
instance (w : World) : Nonempty (Ex w) := ⟨⟨w, Ext.refl w⟩⟩
def plus (w : World) (x : Ex w) : World := x.wd
theorem plus_ext (w : World) (x : Ex w) : Ext w (plus w x) := x.ext
theorem ext_plus {w w' : World} (h : Ext w w') : ∃ x : Ex w, w' = plus w x := ⟨⟨w', h⟩, rfl⟩
theorem cell_plus {w : World} {p : Addr} {v : Value} (h : w.cell? p = some v) (x : Ex w) : (plus w x).cell? p = some v := (plus_ext w x).cell h
theorem frozen_plus {w : World} {p : Addr} {v : Value} {b : Bool} (hc : w.cell? p = some v) (h : w.frozen? p = b) (x : Ex w) : (plus w x).frozen? p = b :=
  (Below.frozen (plus_ext w x) (World.block_lt_of_cell? w p hc)).trans h

theorem box4 {w w1 : World} {a b c d : Value} {t : TypeId} (hx : Ext (w.alloc (.cells #[a, b, c, d] t)) w1) :
    w1.cell? ⟨w.heap.size, 0, none⟩ = some a ∧ w1.cell? ⟨w.heap.size, 1, none⟩ = some b ∧ w1.cell? ⟨w.heap.size, 2, none⟩ = some c ∧ w1.cell? ⟨w.heap.size, 3, none⟩ = some d := by
  have h := (Blk.new w t #[a, b, c, d]).ext hx
  exact ⟨by rw [h.cell]; rfl, by rw [h.cell]; rfl, by rw [h.cell]; rfl, by rw [h.cell]; rfl⟩
theorem box4p {w w1 : World} {a b c d : Value} {t : TypeId} (hx : Ext (w.alloc (.cells #[a, b, c, d] t)) w1) (x : Ex w1) :
    (plus w1 x).cell? ⟨w.heap.size, 0, none⟩ = some a ∧ (plus w1 x).cell? ⟨w.heap.size, 1, none⟩ = some b ∧ (plus w1 x).cell? ⟨w.heap.size, 2, none⟩ = some c ∧ (plus w1 x).cell? ⟨w.heap.size, 3, none⟩ = some d :=
  box4 (hx.trans (plus_ext w1 x))

theorem keep4 {w w' : World} {g : Nat} {a b c d : Value} {t : TypeId} (h : Blk w g t #[a, b, c, d]) (hx : Ext w w') :
    Ext w w' ∧ w'.cell? ⟨g, 0, none⟩ = some a ∧ w'.cell? ⟨g, 1, none⟩ = some b ∧ w'.cell? ⟨g, 2, none⟩ = some c ∧ w'.cell? ⟨g, 3, none⟩ = some d := by
  have k := h.ext hx
  exact ⟨hx, by rw [k.cell]; rfl, by rw [k.cell]; rfl, by rw [k.cell]; rfl, by rw [k.cell]; rfl⟩

/-- A call met inside a region that draws its order: what it leaves extends what it got. -/
theorem Calls.plus_of {P : Program} {f : FuncId} {args : Array Value} {w : World} {x : Ex w} {v : Value}
    (h : Calls P f args (plus w x) fun e w' => e = .returned v ∧ Ext (plus w x) w') : Calls P f args (plus w x) fun e w'' => e = .returned v ∧ ∃ y : Ex w, w'' = plus w y :=
  h.mono fun _ _ ⟨he, hm⟩ => ⟨he, ext_plus ((plus_ext w x).trans hm)⟩
theorem Calls.plus_of_same {P : Program} {f : FuncId} {args : Array Value} {w : World} {x : Ex w} {v : Value}
    (h : Calls P f args (plus w x) fun e w' => e = .returned v ∧ plus w x = w') : Calls P f args (plus w x) fun e w'' => e = .returned v ∧ ∃ y : Ex w, w'' = plus w y :=
  h.mono fun _ _ ⟨he, hm⟩ => ⟨he, x, hm.symm⟩
theorem Calls.ext_of_same {P : Program} {f : FuncId} {args : Array Value} {w : World} {R : Ending → Prop}
    (h : Calls P f args w fun e w' => R e ∧ w = w') : Calls P f args w fun e w' => R e ∧ Ext w w' :=
  h.mono fun _ w' ⟨he, hm⟩ => ⟨he, by subst hm; exact Ext.refl _⟩

/-- A region that draws its order, whose operations each give one value in every world that extends w, and leave such a world: one walk, in the order of the text. -/
theorem wp_region_plus {P : Program} {id : Nat} {Q : Exit → Act → World → Prop} {a : Act} {w : World} {l : List Oper} (hm : P.follows .mixedOrders = true) (hB : Region.lexB .any l.toArray = true)
    (h : wpQuiet P l.toArray (fun w' => ∃ x : Ex w, w' = plus w x) (fun a' => ∀ x : Ex w, Q .normal a' (plus w x)) l a) : (Code.region id l.toArray true).wp P Q a w := by
  refine wp_region_quiet (C := fun w' => ∃ x : Ex w, w' = plus w x) hm hB (ext_plus (Ext.refl w).drew) ?_
  have e : (fun a' => ∀ w', (∃ x : Ex w, w' = plus w x) → Q .normal a' w') = (fun a' => ∀ x : Ex w, Q .normal a' (plus w x)) := by
    funext a'
    exact propext ⟨fun h x => h _ ⟨x, rfl⟩, fun h w' ⟨x, hx⟩ => hx ▸ h x⟩
  rw [e]
  simpa using h

/-- A slice that the call itself makes: it owns the cells xs, in a block from B on. -/
def Own1 (w : World) (B : Nat) (e : TypeId) (v : Value) (xs : List Value) : Prop := w.ownsRow B e 1 v xs.length xs

theorem Own1.nil (w : World) (B : Nat) (e : TypeId) : Own1 w B e (.slice none 0 0) [] := World.ownsRow_nil _ _ _ _
theorem Own1.ext {w w' : World} {B : Nat} {e : TypeId} {v : Value} {xs : List Value} (h : Own1 w B e v xs) (hx : Ext w w') : Own1 w' B e v xs := by
  obtain ⟨h1, h2⟩ := h
  refine ⟨h1, ?_⟩
  rcases h2 with h2 | ⟨g, cap, cur, hv, hg, hh, r⟩
  · exact .inl h2
  · exact .inr ⟨g, cap, cur, hv, hg, Blk.ext (t := e) (cs := cur) hh hx, r⟩
theorem Own1.mono {w : World} {B B' : Nat} {e : TypeId} {v : Value} {xs : List Value} (h : Own1 w B e v xs) (hb : B' ≤ B) : Own1 w B' e v xs := by
  obtain ⟨h1, h2⟩ := h
  refine ⟨h1, ?_⟩
  rcases h2 with h2 | ⟨g, cap, cur, hv, hg, r⟩
  · exact .inl h2
  · exact .inr ⟨g, cap, cur, hv, by omega, r⟩
theorem Own1.form {w : World} {B : Nat} {e : TypeId} {v : Value} {xs : List Value} (h : Own1 w B e v xs) (hn : 0 < xs.length) :
    ∃ g cap, v = .slice (some ⟨g, 0, none⟩) xs.length cap ∧ B ≤ g ∧ g < w.heap.size ∧ ∀ j u, xs[j]? = some u → w.cell? ⟨g, j, none⟩ = some u := by
  obtain ⟨g, cap, hv, hb, hl⟩ := World.ownsRow.form h hn
  subst hv
  exact ⟨g, cap, rfl, hb, hl, fun j u hu => by
    have := World.ownsRow.cells (v := .slice (some ⟨g, 0, none⟩) xs.length cap) h (g := g) rfl j u hu
    have ea : (⟨g, 0, none⟩ : Addr).add j = ⟨g, j, none⟩ := by unfold Addr.add; split <;> simp_all
    rwa [ea] at this⟩

theorem Own1.blk {w : World} {B : Nat} {e : TypeId} {v : Value} {xs : List Value} (h : Own1 w B e v xs) (hn : 0 < xs.length) :
    ∃ g cap cur, v = .slice (some ⟨g, 0, none⟩) xs.length cap ∧ B ≤ g ∧ Blk w g e cur ∧ xs.length ≤ cur.size := by
  rcases h.2 with ⟨_, h0⟩ | ⟨g, cap, cur, hv, hg, hh, hnc, _, hs, _⟩
  · omega
  · exact ⟨g, cap, cur, hv, hg, hh, by omega⟩
theorem Own1.far {w : World} {B : Nat} {e : TypeId} {v : Value} {xs : List Value} (h : Own1 w B e v xs) {p : Addr} (hp : p.block < B) (u : Value) : Own1 (w.setCell p u) B e v xs :=
  ownsRow_setCell_below h hp u

theorem Ext.of_below {w w1 w2 : World} {B : Nat} (h : Ext w w1) (hb : Below B w1 w2) (hB : w.heap.size ≤ B) : Ext w w2 := Below.trans h (hb.mono hB)

/-- 'out = append(out, x)' where the call itself made out. -/
theorem wpList_app1 {P : Program} {w : World} {ops : Array Oper} {rest : List Oper} {o : Oper} {a : Act} {Q : Exit → Act → World → Prop} (hgd : o.guard = none) (s x : Operand) (t : TypeId)
    (ho : o.op = .call { callee := .builtin .append, args := #[s, x], argTypes := #[t, t] })
    (B : Nat) (e : TypeId) (z : Value) (bytes : Nat) (ht : P.underlying t = some (.slice e)) (hi : (P.info? e).map (fun i => (i.zero, i.size, i.bytes)) = some (some z, 1, bytes)) (hzs : z.cells.size = 1)
    (v : Value) (xs : List Value) (hs : a.eval s = v) (hown : Own1 w B e v xs)
    (g c : Nat) (u : Value) (hx : a.eval x = .slice (some ⟨g, 0, none⟩) 1 c) (hc : w.cell? ⟨g, 0, none⟩ = some u) (h1 : u.oneCell' = true)
    (hb : (xs.length + 1) * bytes ≤ 140737488355328) (hl : xs.length + 1 ≤ 9223372036854775807) (hbase : B ≤ w.heap.size)
    (h : ∀ v' w', Own1 w' B e v' (xs ++ [u]) → Below B w w' → wpList P ops Q rest (a.put o.dst v') w') : wpList P ops Q (o :: rest) a w := by
  obtain ⟨i, hi0, hz0, hz1, hz2⟩ := info_parts hi
  refine wpList_append_own_at w hgd s x t ho B e i z 1 bytes ht hi0 hz0 hz1 hz2 hzs (by omega) v xs.length xs hs hown ⟨g, 0, none⟩ 1 c [u] hx rfl ?_ ?_ (by simp only [maxLen]; omega) hb hbase ?_
  · intro j y hj
    match j, hj with
    | 0, hj => simp at hj; subst hj; simpa [Addr.add] using hc
  · intro y hy; simp at hy; subst hy; exact h1
  · intro v' w' ho' hg _ _
    exact h v' w' (by unfold Own1; simpa using ho') ((Below.refl B w).grown hg hbase (fun k hk => (World.ownsRow.lt hown k hk).1))

/-- Bytes as cells. -/
def u8s (l : List UInt8) : Array Value := (l.map fun b => Value.int .u8 b.toNat).toArray
@[simp] theorem size_u8s (l : List UInt8) : (u8s l).size = l.length := by simp [u8s]
theorem u8s_get (l : List UInt8) (i : Nat) (h : i < l.length) : (u8s l)[i]? = some (.int .u8 (l.getD i 0).toNat) := by simp [u8s, h]
theorem u8s_set (l : List UInt8) (i : Nat) (b : UInt8) : (u8s l).setIfInBounds i (.int .u8 b.toNat) = u8s (l.set i b) := by
  apply Array.ext'
  simp [u8s, List.map_set]
theorem made_u8 (n : Nat) : madeCells #[Value.int .u8 0] n = u8s (List.replicate n 0) := by
  apply Array.ext
  · simp [madeCells, u8s]
  · intro i h1 h2
    simp [madeCells, u8s, Nat.mod_one]

theorem or2 (a : UInt8) : bits .or .u8 (a.toNat : Int) 2 = ((a ||| 2).toNat : Int) := by
  have := u8_or_nat a.toNat 2 a.toNat_lt (by decide)
  rw [UInt8.toNat_or]; exact this
theorem or1 (a : UInt8) : bits .or .u8 (a.toNat : Int) 1 = ((a ||| 1).toNat : Int) := by
  have := u8_or_nat a.toNat 1 a.toNat_lt (by decide)
  rw [UInt8.toNat_or]; exact this

theorem wrap64_b (b : UInt8) : wrap64 (b.toNat : Int) = (b.toNat : Int) := by
  have := b.toNat_lt
  unfold wrap64
  omega

theorem ret_int {k : IntKind} {a b : Int} (h : a = b) : Ending.returned (.int k a) = .returned (.int k b) := by rw [h]
theorem ret_bool {a b : Bool} (h : a = b) : Ending.returned (.bool a) = .returned (.bool b) := by rw [h]

end Go.Proofs.YtgfknlkpdiejgaaGreatDoor
