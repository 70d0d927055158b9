/- The program's Named as a contract, name by name. No condition but where the error values lie. -/
import Derived.Test.YteahmkhmkalimaaDoorOther
import Derived.Test.YteahmkhmkalimaaDoorNumErr
import Derived.Test.YteahmkhmkalimaaDoorTail
import Derived.Deep.RegionWith
namespace Go.Proofs.YteahmkhmkalimaaDoor
open Go.RowKit

def setA (p : Nat → Bool) : Value := .agg #[.int .u64 (wd p 0 : Int), .int .u64 (wd p 1 : Int), .int .u64 (wd p 2 : Int), .int .u64 (wd p 3 : Int)]
theorem range_a (lo hi : Nat) (l h : Int) (w : World) (hl : l = lo) (hh : h = hi) (hlo : lo < 256) (hhi : hi < 256) :
    Calls Tryd.prog 13 #[.int .u8 l, .int .u8 h] w fun r w' => r = .returned (.agg #[.int .u64 (wd (rangeB lo hi) 0 : Int), .int .u64 (wd (rangeB lo hi) 1 : Int), .int .u64 (wd (rangeB lo hi) 2 : Int), .int .u64 (wd (rangeB lo hi) 3 : Int)]) ∧ Ext w w' := by
  subst hl hh
  exact range_any lo hi w hlo hhi
theorem rdS2 (w : World) (t : TypeId) (p q : Nat → Bool) (c : Nat) :
    RdS (w.alloc (.cells #[.int .u64 (wd p 0 : Int), .int .u64 (wd p 1 : Int), .int .u64 (wd p 2 : Int), .int .u64 (wd p 3 : Int), .int .u64 (wd q 0 : Int), .int .u64 (wd q 1 : Int), .int .u64 (wd q 2 : Int), .int .u64 (wd q 3 : Int)] t)) (.slice (some ⟨w.heap.size, 0, none⟩) 2 c) [p, q] := by
  have hB := Blk.new w t #[.int .u64 (wd p 0 : Int), .int .u64 (wd p 1 : Int), .int .u64 (wd p 2 : Int), .int .u64 (wd p 3 : Int), .int .u64 (wd q 0 : Int), .int .u64 (wd q 1 : Int), .int .u64 (wd q 2 : Int), .int .u64 (wd q 3 : Int)]
  refine ⟨_, _, rfl, fun j hj => ⟨w.heap.size, 0, rfl, fun i hi => ?_⟩⟩
  rw [hB.cell]
  have : j < 2 := hj
  rcases (show j = 0 ∨ j = 1 from by omega) with rfl | rfl <;> rcases (show i = 0 ∨ i = 1 ∨ i = 2 ∨ i = 3 from by omega) with rfl | rfl | rfl | rfl <;> rfl
theorem join2 (p q : Nat → Bool) (w : World) (t : TypeId) (c : Nat) :
    Calls Tryd.prog 36 #[.slice (some ⟨w.heap.size, 0, none⟩) 2 c] (w.alloc (.cells #[.int .u64 (wd p 0 : Int), .int .u64 (wd p 1 : Int), .int .u64 (wd p 2 : Int), .int .u64 (wd p 3 : Int), .int .u64 (wd q 0 : Int), .int .u64 (wd q 1 : Int), .int .u64 (wd q 2 : Int), .int .u64 (wd q 3 : Int)] t)) fun r w' => r = .returned (.agg #[.int .u64 (wd (fun b => p b || q b) 0 : Int), .int .u64 (wd (fun b => p b || q b) 1 : Int), .int .u64 (wd (fun b => p b || q b) 2 : Int), .int .u64 (wd (fun b => p b || q b) 3 : Int)]) ∧ Ext w w' :=
  (join_any [p, q] _ _ (rdS2 w t p q c) (by simp)).mono fun e w' ⟨h1, h2⟩ => ⟨by rw [h1, show joinL [p, q] = fun b => p b || q b from by funext b; simp [joinL]]; rfl, ((Ext.refl w).alloc _).trans h2⟩
/-- The store of a whole set, where a region draws its order. -/
theorem wp_storeSet {o : Oper} {a : Act} {w : World} {K : Act → World → Prop} {Q : Exit → Act → World → Prop} (x y : Operand) (ho : o.op = .store 24 x y)
    (g : Nat) (t : TypeId) (p q : Nat → Bool) (hx : a.eval x = .pointer (some ⟨g, 0, none⟩)) (hy : a.eval y = setV p) (hB : Blk w g t (setC q))
    (h : K (a.put o.dst undef) (w.setRow g (setC p))) : o.wp Tryd.prog a w K Q :=
  wp_store_row _ x y ho g (setC p) hx hy t (setC q) hB (info_setC p) (setC_sz q p) (setC_one p) h
theorem setC_keep {w w' : World} {g : Nat} {t : TypeId} {p : Nat → Bool} (h : Blk w g t (setC p)) (hx : Ext w w') :
    w'.cell? ⟨g, 0, none⟩ = some (.int .u64 (wd p 0 : Int)) ∧ w'.cell? ⟨g, 1, none⟩ = some (.int .u64 (wd p 1 : Int)) ∧ w'.cell? ⟨g, 2, none⟩ = some (.int .u64 (wd p 2 : Int)) ∧ w'.cell? ⟨g, 3, none⟩ = some (.int .u64 (wd p 3 : Int)) := by
  have k := h.ext hx
  exact ⟨k.cell 0, k.cell 1, k.cell 2, k.cell 3⟩

theorem setV_congr {p q : Nat → Bool} (h : ∀ b, b < 256 → p b = q b) : setV p = setV q := by
  have e : ∀ i, i < 4 → wd p i = wd q i := fun i hi => wd_congr fun k hk => h _ (by omega)
  unfold setV
  rw [e 0 (by omega), e 1 (by omega), e 2 (by omega), e 3 (by omega)]

theorem of2 (a b : Nat) (w : World) (t : TypeId) (c : Nat) (ha : a < 256) (hb : b < 256) :
    Calls Tryd.prog 11 #[.slice (some ⟨w.heap.size, 0, none⟩) 2 c] (w.alloc (.cells #[.int .u8 (a : Int), .int .u8 (b : Int)] t)) fun r w' => r = .returned (.agg #[.int .u64 (wd (fun x => x == a || x == b) 0 : Int), .int .u64 (wd (fun x => x == a || x == b) 1 : Int), .int .u64 (wd (fun x => x == a || x == b) 2 : Int), .int .u64 (wd (fun x => x == a || x == b) 3 : Int)]) ∧ Ext w w' := by
  have hB := Blk.new w t #[.int .u8 (a : Int), .int .u8 (b : Int)]
  have h := of_any [a, b] (.slice (some ⟨w.heap.size, 0, none⟩) 2 c) (w.alloc (.cells #[.int .u8 (a : Int), .int .u8 (b : Int)] t)) ⟨_, _, rfl, fun j hj => ⟨w.heap.size, 0, rfl, by
    rw [hB.cell]
    have : j < 2 := hj
    rcases (show j = 0 ∨ j = 1 from by omega) with rfl | rfl <;> rfl⟩⟩ (fun j => by
    rcases (show j = 0 ∨ j = 1 ∨ 2 ≤ j from by omega) with rfl | rfl | h
    · exact ha
    · exact hb
    · rw [List.getD_eq_getElem?_getD, List.getElem?_eq_none (by simpa using h)]; exact Nat.zero_lt_succ _) (by simp)
  refine h.mono fun e w' ⟨h1, h2⟩ => ⟨?_, ((Ext.refl w).alloc _).trans h2⟩
  rw [h1, show ofL [a, b] = fun x => x == a || x == b from by funext x; rw [Bool.eq_iff_iff]; simp [ofL]]
  rfl
theorem of1 (a : Nat) (w : World) (t : TypeId) (c : Nat) (ha : a < 256) :
    Calls Tryd.prog 11 #[.slice (some ⟨w.heap.size, 0, none⟩) 1 c] (w.alloc (.cells #[.int .u8 (a : Int)] t)) fun r w' => r = .returned (.agg #[.int .u64 (wd (fun x => x == a) 0 : Int), .int .u64 (wd (fun x => x == a) 1 : Int), .int .u64 (wd (fun x => x == a) 2 : Int), .int .u64 (wd (fun x => x == a) 3 : Int)]) ∧ Ext w w' := by
  have hB := Blk.new w t #[.int .u8 (a : Int)]
  have h := of_any [a] (.slice (some ⟨w.heap.size, 0, none⟩) 1 c) (w.alloc (.cells #[.int .u8 (a : Int)] t)) ⟨_, _, rfl, fun j hj => ⟨w.heap.size, 0, rfl, by
    rw [hB.cell]
    have : j < 1 := hj
    rcases (show j = 0 from by omega) with rfl
    rfl⟩⟩ (fun j => by
    rcases (show j = 0 ∨ 1 ≤ j from by omega) with rfl | h
    · exact ha
    · rw [List.getD_eq_getElem?_getD, List.getElem?_eq_none (by simpa using h)]; exact Nat.zero_lt_succ _) (by simp)
  refine h.mono fun e w' ⟨h1, h2⟩ => ⟨?_, ((Ext.refl w).alloc _).trans h2⟩
  rw [h1, show ofL [a] = fun x => x == a from by funext x; rw [Bool.eq_iff_iff]; simp [ofL]]
  rfl
theorem less_a (p q : Nat → Bool) (w : World) :
    Calls Tryd.prog 44 #[.agg #[.int .u64 (wd p 0 : Int), .int .u64 (wd p 1 : Int), .int .u64 (wd p 2 : Int), .int .u64 (wd p 3 : Int)], .agg #[.int .u64 (wd q 0 : Int), .int .u64 (wd q 1 : Int), .int .u64 (wd q 2 : Int), .int .u64 (wd q 3 : Int)]] w fun r w' => r = .returned (.agg #[.int .u64 (wd (fun b => p b && !q b) 0 : Int), .int .u64 (wd (fun b => p b && !q b) 1 : Int), .int .u64 (wd (fun b => p b && !q b) 2 : Int), .int .u64 (wd (fun b => p b && !q b) 3 : Int)]) ∧ Ext w w' := less_any p q w

theorem of1_a (a : Nat) (l : Int) (w : World) (t : TypeId) (c : Nat) (hl : l = a) (ha : a < 256) :
    Calls Tryd.prog 11 #[.slice (some ⟨w.heap.size, 0, none⟩) 1 c] (w.alloc (.cells #[.int .u8 l] t)) fun r w' => r = .returned (.agg #[.int .u64 (wd (fun x => x == a) 0 : Int), .int .u64 (wd (fun x => x == a) 1 : Int), .int .u64 (wd (fun x => x == a) 2 : Int), .int .u64 (wd (fun x => x == a) 3 : Int)]) ∧ Ext w w' := by
  subst hl
  exact of1 a w t c ha
theorem of2_a (a b : Nat) (l m : Int) (w : World) (t : TypeId) (c : Nat) (hl : l = a) (hm : m = b) (ha : a < 256) (hb : b < 256) :
    Calls Tryd.prog 11 #[.slice (some ⟨w.heap.size, 0, none⟩) 2 c] (w.alloc (.cells #[.int .u8 l, .int .u8 m] t)) fun r w' => r = .returned (.agg #[.int .u64 (wd (fun x => x == a || x == b) 0 : Int), .int .u64 (wd (fun x => x == a || x == b) 1 : Int), .int .u64 (wd (fun x => x == a || x == b) 2 : Int), .int .u64 (wd (fun x => x == a || x == b) 3 : Int)]) ∧ Ext w w' := by
  subst hl hm
  exact of2 a b w t c ha hb

end Go.Proofs.YteahmkhmkalimaaDoor
