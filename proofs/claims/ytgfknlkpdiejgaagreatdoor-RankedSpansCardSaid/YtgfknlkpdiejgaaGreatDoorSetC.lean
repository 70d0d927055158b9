/- Sets of bytes as four words: cells, laws of the walk, one byte more. No condition. -/
import Derived.Test.YtgfknlkpdiejgaaGreatDoorProg
import Derived.Test.YtgfknlkpdiejgaaGreatDoorLib
import Derived.Test.YtgfknlkpdiejgaaGreatDoorBits
import Derived.Laws.Tables
import Derived.Laws.CopyOwn
import Derived.Laws.Rows
namespace Go.Proofs.YtgfknlkpdiejgaaGreatDoor
open Go.RowKit

def u64v (n : Nat) : Value := .int .u64 (n : Int)
/-- A set as a value. -/
def setV (p : Nat → Bool) : Value := .agg #[u64v (wd p 0), u64v (wd p 1), u64v (wd p 2), u64v (wd p 3)]

def setC (p : Nat → Bool) : Array Value := #[u64v (wd p 0), u64v (wd p 1), u64v (wd p 2), u64v (wd p 3)]
theorem setC_get (p : Nat → Bool) (i : Nat) (h : i < 4) : (setC p)[i]? = some (u64v (wd p i)) := by
  rcases (show i = 0 ∨ i = 1 ∨ i = 2 ∨ i = 3 from by omega) with rfl | rfl | rfl | rfl <;> rfl
theorem setV_eq (p : Nat → Bool) : setV p = .agg (setC p) := rfl
theorem setC_put (p q : Nat → Bool) (i : Nat) (x : Nat) (h : i < 4) (hx : x = wd q i) (hne : ∀ j, j < 4 → j ≠ i → wd q j = wd p j) :
    (setC p).setIfInBounds i (u64v x) = setC q := by
  unfold setC
  rcases (show i = 0 ∨ i = 1 ∨ i = 2 ∨ i = 3 from by omega) with rfl | rfl | rfl | rfl
  · rw [hx, hne 1 (by omega) (by omega), hne 2 (by omega) (by omega), hne 3 (by omega) (by omega)]; rfl
  · rw [hx, hne 0 (by omega) (by omega), hne 2 (by omega) (by omega), hne 3 (by omega) (by omega)]; rfl
  · rw [hx, hne 0 (by omega) (by omega), hne 1 (by omega) (by omega), hne 3 (by omega) (by omega)]; rfl
  · rw [hx, hne 0 (by omega) (by omega), hne 1 (by omega) (by omega), hne 2 (by omega) (by omega)]; rfl
theorem setC_cells {w : World} {g : Nat} {t : TypeId} {p : Nat → Bool} (h : Blk w g t (setC p)) :
    w.cell? ⟨g, 0, none⟩ = some (.int .u64 (wd p 0 : Int)) ∧ w.cell? ⟨g, 1, none⟩ = some (.int .u64 (wd p 1 : Int)) ∧ w.cell? ⟨g, 2, none⟩ = some (.int .u64 (wd p 2 : Int)) ∧ w.cell? ⟨g, 3, none⟩ = some (.int .u64 (wd p 3 : Int)) ∧
    w.frozen? ⟨g, 0, none⟩ = false ∧ w.frozen? ⟨g, 1, none⟩ = false ∧ w.frozen? ⟨g, 2, none⟩ = false ∧ w.frozen? ⟨g, 3, none⟩ = false :=
  ⟨h.cell 0, h.cell 1, h.cell 2, h.cell 3, h.frozen 0, h.frozen 1, h.frozen 2, h.frozen 3⟩
theorem setC_none : setC (fun _ => false) = #[.int .u64 0, .int .u64 0, .int .u64 0, .int .u64 0] := by
  unfold setC u64v
  rw [wd_none, wd_none, wd_none, wd_none]
  rfl
theorem Blk.setRow {w : World} {g : Nat} {t : TypeId} {cs cs' : Array Value} (h : Blk w g t cs) : Blk (w.setRow g cs') g t cs' := setRow_heap w g cs cs' t (0, 0) h
theorem Blk.rowFar {w : World} {g k : Nat} {t : TypeId} {cs cs' : Array Value} (h : Blk w k t cs) (hk : k ≠ g) : Blk (w.setRow g cs') k t cs := (setRow_other w g k cs' hk).trans h
theorem Ext.setRow {w w' : World} (h : Ext w w') {g : Nat} (hg : w.heap.size ≤ g) (cs : Array Value) : Ext w (w'.setRow g cs) := below_setRow h hg cs
theorem info_set : (Tryz.prog.info? 24).map (·.size) = some 4 := by kernel_rfl
theorem setC_size (p : Nat → Bool) : (setC p).size = 4 := rfl
theorem setC_one (p : Nat → Bool) : (setC p).all (·.oneCell') = true := by simp [setC, u64v, Value.oneCell']
theorem info_setC (p : Nat → Bool) : (Tryz.prog.info? 24).map (·.size) = some (setC p).size := info_set
theorem setC_sz (p q : Nat → Bool) : (setC p).size = (setC q).size := by rw [setC_size, setC_size]
/-- The load of a whole set, the store of a whole set. -/
theorem wpl_loadSet {ops : Array Oper} {rest : List Oper} {o : Oper} {a : Act} {w : World} {Q : Exit → Act → World → Prop} (hgd : o.guard = none) (x : Operand) (ho : o.op = .load 24 x)
    (g : Nat) (t : TypeId) (p : Nat → Bool) (hx : a.eval x = .pointer (some ⟨g, 0, none⟩)) (hB : Blk w g t (setC p))
    (h : wpList Tryz.prog ops Q rest (a.put o.dst (setV p)) w) : wpList Tryz.prog ops Q (o :: rest) a w :=
  wpList_load_row hgd _ x ho g hx t (setC p) (0, 0) _ hB Tryz.underlying24 rfl (info_setC p) h
theorem wpl_storeSet {ops : Array Oper} {rest : List Oper} {o : Oper} {a : Act} {w : World} {Q : Exit → Act → World → Prop} (hgd : o.guard = none) (x y : Operand) (ho : o.op = .store 24 x y)
    (g : Nat) (t : TypeId) (p q : Nat → Bool) (hx : a.eval x = .pointer (some ⟨g, 0, none⟩)) (hy : a.eval y = setV p) (hB : Blk w g t (setC q))
    (h : wpList Tryz.prog ops Q rest (a.put o.dst undef) (w.setRow g (setC p))) : wpList Tryz.prog ops Q (o :: rest) a w :=
  wpList_store_row hgd _ x y ho g (setC p) hx hy t (setC q) hB (info_setC p) (setC_sz q p) (setC_one p) h
/-- A return of a set that lies in the result's block. -/
theorem ret_set {fn : Func} {x : Tmp} {R : Ending → World → Prop} {a : Act} {w : World} {g : Nat} {t : TypeId} {p : Nat → Bool} (h : fn.results = #[.cell x 24]) (hp : a.tmps.getD x undef = .pointer (some ⟨g, 0, none⟩)) (hd : a.defers = [])
    (hB : Blk w g t (setC p)) (hR : R (.returned (setV p)) w) : bodyPost Tryz.prog fn R .ret a w :=
  bodyPost_ret (results_cell_row h a.tmps w g t (setC p) (0, 0) _ hp hB Tryz.underlying24 rfl (info_setC p)) hd hR
/-- The set with one byte more. -/
def insB (p : Nat → Bool) (b : Nat) : Nat → Bool := fun x => p x || x == b
theorem wd_ins (p : Nat → Bool) (b : Nat) : wd p (b / 64) ||| 2 ^ (b % 64) = wd (insB p b) (b / 64) := by
  refine wd_of (Nat.or_lt_two_pow (n := 64) (wd_lt p _) (Nat.pow_lt_pow_right (by decide) (by omega))) fun k hk => ?_
  rw [Nat.testBit_or, wd_bit _ _ _ hk, Nat.testBit_two_pow]
  unfold insB
  congr 1
  rw [Bool.eq_iff_iff, decide_eq_true_eq, beq_iff_eq]
  omega
theorem wd_ins_ne (p : Nat → Bool) (b j : Nat) (h : j ≠ b / 64) : wd (insB p b) j = wd p j := by
  refine wd_congr fun k hk => ?_
  unfold insB
  have : (64 * j + k == b) = false := by rw [beq_eq_false_iff_ne]; omega
  rw [this, Bool.or_false]
theorem setC_ins (p : Nat → Bool) (b : Nat) (h : b < 256) : (setC p).setIfInBounds (b / 64) (u64v (wd p (b / 64) ||| 2 ^ (b % 64))) = setC (insB p b) :=
  setC_put p _ _ _ (by omega) (wd_ins p b) (fun j _ hj => wd_ins_ne p b j hj)

theorem or_wd (p : Nat → Bool) (b : Nat) : bits .or .u64 (wd p (b / 64) : Int) (IntKind.u64.wrap (2 ^ (b % 64))) = (wd (insB p b) (b / 64) : Int) := by
  have h : 2 ^ (b % 64) < 2 ^ 64 := Nat.pow_lt_pow_right (a := 2) (m := b % 64) (n := 64) (by decide) (by omega)
  have e : IntKind.u64.wrap (2 ^ (b % 64)) = ((2 ^ (b % 64) : Nat) : Int) := by
    have e0 : ((2 : Int) ^ (b % 64)) = ((2 ^ (b % 64) : Nat) : Int) := by rw [Int.natCast_pow]; rfl
    rw [e0, IntKind.wrap_u64]
    generalize 2 ^ (b % 64) = y at *
    omega
  rw [e, u64_or_nat _ _ (wd_lt p _) h, wd_ins]
theorem or_wd_old (p : Nat → Bool) (b : Nat) : bits .or .u64 (wd p (b / 64) : Int) ((2 ^ (b % 64) : Nat) : Int) = ((wd p (b / 64) ||| 2 ^ (b % 64) : Nat) : Int) :=
  u64_or_nat _ _ (wd_lt p _) (Nat.pow_lt_pow_right (a := 2) (m := b % 64) (n := 64) (by decide) (by omega))


end Go.Proofs.YtgfknlkpdiejgaaGreatDoor
