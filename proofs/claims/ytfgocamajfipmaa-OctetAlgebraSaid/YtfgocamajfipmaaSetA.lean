/- The program's Of and Range as contracts over the set's bytes. No condition but the length of what comes in. -/
import Derived.Test.YtfgocamajfipmaaOctet
import Derived.Laws.Tables
import Derived.Laws.CopyOwn
import Derived.Test.YtfgocamajfipmaaPop
namespace Go.Proofs.Ytfgocamajfipmaa
open Go.RowKit

def setC (p : Nat → Bool) : Array Value := #[u64v (wd p 0), u64v (wd p 1), u64v (wd p 2), u64v (wd p 3)]
theorem setC_get (p : Nat → Bool) (i : Nat) (h : i < 4) : (setC p)[i]? = some (u64v (wd p i)) := by
  rcases (show i = 0 ∨ i = 1 ∨ i = 2 ∨ i = 3 from by omega) with rfl | rfl | rfl | rfl <;> rfl
theorem setV_eq (p : Nat → Bool) : setV p = .agg (setC p) := rfl
theorem setC_put (p q : Nat → Bool) (i : Nat) (x : Nat) (h : i < 4) (hx : x = wd q i) (hne : ∀ j, j < 4 → j ≠ i → wd q j = wd p j) :
    (setC p).setIfInBounds i (u64v x) = setC q := by
  unfold setC
  rcases (show i = 0 ∨ i = 1 ∨ i = 2 ∨ i = 3 from by omega) with rfl | rfl | rfl | rfl
  · rw [hx, hne 1 (by omega) (by omega), hne 2 (by omega) (by omega), hne 3 (by omega) (by omega)]; rfl
  · rw [hx, hne 0 (by omega) (by omega), hne 2 (by omega) (by omega), hne 3 (by omega) (by omega)]; rfl
  · rw [hx, hne 0 (by omega) (by omega), hne 1 (by omega) (by omega), hne 3 (by omega) (by omega)]; rfl
  · rw [hx, hne 0 (by omega) (by omega), hne 1 (by omega) (by omega), hne 2 (by omega) (by omega)]; rfl
theorem setC_cells {w : World} {g : Nat} {t : TypeId} {p : Nat → Bool} (h : Blk w g t (setC p)) :
    w.cell? ⟨g, 0, none⟩ = some (.int .u64 (wd p 0 : Int)) ∧ w.cell? ⟨g, 1, none⟩ = some (.int .u64 (wd p 1 : Int)) ∧ w.cell? ⟨g, 2, none⟩ = some (.int .u64 (wd p 2 : Int)) ∧ w.cell? ⟨g, 3, none⟩ = some (.int .u64 (wd p 3 : Int)) ∧
    w.frozen? ⟨g, 0, none⟩ = false ∧ w.frozen? ⟨g, 1, none⟩ = false ∧ w.frozen? ⟨g, 2, none⟩ = false ∧ w.frozen? ⟨g, 3, none⟩ = false :=
  ⟨h.cell 0, h.cell 1, h.cell 2, h.cell 3, h.frozen 0, h.frozen 1, h.frozen 2, h.frozen 3⟩
theorem setC_none : setC (fun _ => false) = #[.int .u64 0, .int .u64 0, .int .u64 0, .int .u64 0] := by
  unfold setC u64v
  rw [wd_none, wd_none, wd_none, wd_none]
  rfl
theorem Blk.setRow {w : World} {g : Nat} {t : TypeId} {cs cs' : Array Value} (h : Blk w g t cs) : Blk (w.setRow g cs') g t cs' := setRow_heap w g cs cs' t (0, 0) h
theorem Blk.rowFar {w : World} {g k : Nat} {t : TypeId} {cs cs' : Array Value} (h : Blk w k t cs) (hk : k ≠ g) : Blk (w.setRow g cs') k t cs := (setRow_other w g k cs' hk).trans h
theorem Ext.setRow {w w' : World} (h : Ext w w') {g : Nat} (hg : w.heap.size ≤ g) (cs : Array Value) : Ext w (w'.setRow g cs) := below_setRow h hg cs
theorem info_set : (Try.prog.info? 25).map (·.size) = some 4 := by kernel_rfl
theorem setC_size (p : Nat → Bool) : (setC p).size = 4 := rfl
theorem setC_one (p : Nat → Bool) : (setC p).all (·.oneCell') = true := by simp [setC, u64v, Value.oneCell']
theorem info_setC (p : Nat → Bool) : (Try.prog.info? 25).map (·.size) = some (setC p).size := info_set
theorem setC_sz (p q : Nat → Bool) : (setC p).size = (setC q).size := by rw [setC_size, setC_size]
/-- The load of a whole set, the store of a whole set. -/
theorem wpl_loadSet {ops : Array Oper} {rest : List Oper} {o : Oper} {a : Act} {w : World} {Q : Exit → Act → World → Prop} (hgd : o.guard = none) (x : Operand) (ho : o.op = .load 25 x)
    (g : Nat) (t : TypeId) (p : Nat → Bool) (hx : a.eval x = .pointer (some ⟨g, 0, none⟩)) (hB : Blk w g t (setC p))
    (h : wpList Try.prog ops Q rest (a.put o.dst (setV p)) w) : wpList Try.prog ops Q (o :: rest) a w :=
  wpList_load_row hgd _ x ho g hx t (setC p) (0, 0) _ hB Try.underlying25 rfl (info_setC p) h
theorem wpl_storeSet {ops : Array Oper} {rest : List Oper} {o : Oper} {a : Act} {w : World} {Q : Exit → Act → World → Prop} (hgd : o.guard = none) (x y : Operand) (ho : o.op = .store 25 x y)
    (g : Nat) (t : TypeId) (p q : Nat → Bool) (hx : a.eval x = .pointer (some ⟨g, 0, none⟩)) (hy : a.eval y = setV p) (hB : Blk w g t (setC q))
    (h : wpList Try.prog ops Q rest (a.put o.dst undef) (w.setRow g (setC p))) : wpList Try.prog ops Q (o :: rest) a w :=
  wpList_store_row hgd _ x y ho g (setC p) hx hy t (setC q) hB (info_setC p) (setC_sz q p) (setC_one p) h
/-- A return of a set that lies in the result's block. -/
theorem ret_set {fn : Func} {x : Tmp} {R : Ending → World → Prop} {a : Act} {w : World} {g : Nat} {t : TypeId} {p : Nat → Bool} (h : fn.results = #[.cell x 25]) (hp : a.tmps.getD x undef = .pointer (some ⟨g, 0, none⟩)) (hd : a.defers = [])
    (hB : Blk w g t (setC p)) (hR : R (.returned (setV p)) w) : bodyPost Try.prog fn R .ret a w :=
  bodyPost_ret (results_cell_row h a.tmps w g t (setC p) (0, 0) _ hp hB Try.underlying25 rfl (info_setC p)) hd hR
/-- The set with one byte more. -/
def insB (p : Nat → Bool) (b : Nat) : Nat → Bool := fun x => p x || x == b
theorem wd_ins (p : Nat → Bool) (b : Nat) : wd p (b / 64) ||| 2 ^ (b % 64) = wd (insB p b) (b / 64) := by
  refine wd_of (Nat.or_lt_two_pow (n := 64) (wd_lt p _) (Nat.pow_lt_pow_right (by decide) (by omega))) fun k hk => ?_
  rw [Nat.testBit_or, wd_bit _ _ _ hk, Nat.testBit_two_pow]
  unfold insB
  congr 1
  rw [Bool.eq_iff_iff, decide_eq_true_eq, beq_iff_eq]
  omega
theorem wd_ins_ne (p : Nat → Bool) (b j : Nat) (h : j ≠ b / 64) : wd (insB p b) j = wd p j := by
  refine wd_congr fun k hk => ?_
  unfold insB
  have : (64 * j + k == b) = false := by rw [beq_eq_false_iff_ne]; omega
  rw [this, Bool.or_false]
theorem setC_ins (p : Nat → Bool) (b : Nat) (h : b < 256) : (setC p).setIfInBounds (b / 64) (u64v (wd p (b / 64) ||| 2 ^ (b % 64))) = setC (insB p b) :=
  setC_put p _ _ _ (by omega) (wd_ins p b) (fun j _ hj => wd_ins_ne p b j hj)

theorem i64_mask63 (k : Nat) (h : k < 9223372036854775808) : bits .and .i64 (k : Int) 63 = ((k % 64 : Nat) : Int) := by
  have hx : (BitVec.ofInt 64 (k : Int)).toNat = k := by
    rw [BitVec.ofInt_natCast, BitVec.toNat_ofNat]; exact Nat.mod_eq_of_lt (by omega)
  show IntKind.i64.wrap ((BitVec.ofInt 64 (k : Int) &&& BitVec.ofInt 64 63).toNat : Int) = _
  have h63 : (BitVec.ofInt 64 63).toNat = 2 ^ 6 - 1 := by decide
  rw [BitVec.toNat_and, hx, h63, Nat.and_two_pow_sub_one_eq_mod, IntKind.wrap_i64]
  omega
/-- The bytes of a list. -/
def ofL (l : List Nat) : Nat → Bool := fun b => l.contains b
/-- A slice of bytes reads as a list. -/
def RdB (w : World) (v : Value) (l : List Nat) : Prop :=
  ∃ A c, v = .slice A l.length c ∧ ∀ j, j < l.length → ∃ g o, A = some ⟨g, o, none⟩ ∧ w.cell? ⟨g, o + j, none⟩ = some (.int .u8 (l.getD j 0 : Nat))
theorem RdB.ext {w w' : World} {v : Value} {l : List Nat} (h : RdB w v l) (hx : Ext w w') : RdB w' v l := by
  obtain ⟨A, c, hv, hc⟩ := h
  exact ⟨A, c, hv, fun j hj => by obtain ⟨g, o, hA, hcell⟩ := hc j hj; exact ⟨g, o, hA, hx.cell hcell⟩⟩

theorem or_wd (p : Nat → Bool) (b : Nat) : bits .or .u64 (wd p (b / 64) : Int) (IntKind.u64.wrap (2 ^ (b % 64))) = (wd (insB p b) (b / 64) : Int) := by
  have h : 2 ^ (b % 64) < 2 ^ 64 := Nat.pow_lt_pow_right (a := 2) (m := b % 64) (n := 64) (by decide) (by omega)
  have e : IntKind.u64.wrap (2 ^ (b % 64)) = ((2 ^ (b % 64) : Nat) : Int) := by
    have e0 : ((2 : Int) ^ (b % 64)) = ((2 ^ (b % 64) : Nat) : Int) := by rw [Int.natCast_pow]; rfl
    rw [e0, IntKind.wrap_u64]
    generalize 2 ^ (b % 64) = y at *
    omega
  rw [e, u64_or_nat _ _ (wd_lt p _) h, wd_ins]
theorem or_wd_old (p : Nat → Bool) (b : Nat) : bits .or .u64 (wd p (b / 64) : Int) ((2 ^ (b % 64) : Nat) : Int) = ((wd p (b / 64) ||| 2 ^ (b % 64) : Nat) : Int) :=
  u64_or_nat _ _ (wd_lt p _) (Nat.pow_lt_pow_right (a := 2) (m := b % 64) (n := 64) (by decide) (by omega))

theorem ofL_snoc (l : List Nat) (k : Nat) (h : k < l.length) : ofL (l.take (k + 1)) = insB (ofL (l.take k)) (l.getD k 0) := by
  funext x
  unfold ofL insB
  rw [List.getD_eq_getElem?_getD, List.getElem?_eq_getElem h, List.take_succ_eq_append_getElem h, Bool.eq_iff_iff]
  simp only [List.contains_eq_mem, decide_eq_true_eq, List.mem_append, List.mem_singleton, Option.getD_some, Bool.or_eq_true, beq_iff_eq]
set_option maxHeartbeats 1000000 in
theorem of_any (l : List Nat) (v : Value) (w : World) (hv : RdB w v l) (hb : ∀ j, l.getD j 0 < 256) (hl : l.length ≤ 1000000000000) :
    Calls Try.prog 19 #[v] w fun r w' => r = .returned (setV (ofL l)) ∧ Ext w w' := by
  obtain ⟨A, c, rfl, hc⟩ := hv
  have HC := Lib.hid hc
  have HB := Lib.hid hb
  clear hc hb
  go_enter Try.func19, Try.ntmps19
  go_wp2
  go_loopw [5, 8] (fun x i wr => ∃ k : Nat, k ≤ l.length ∧ i = .int .i64 k ∧ Blk wr (w.heap.size + 1) 25 (setC (ofL (l.take k))) ∧ Blk wr w.heap.size 25 (setC (fun _ => false)) ∧ Ext w wr) (fun _ i _ => l.length - (intOf i).toNat)
  case atStart =>
    refine ⟨0, Nat.zero_le _, rfl, ?_, ?_, ((Ext.refl w).alloc _).alloc _⟩
    · rw [show ofL (l.take 0) = fun _ => false from rfl, setC_none]; exact heap_alloc2_new w _ _
    · rw [setC_none]; exact (Blk.new w _ _).alloc _
  case round =>
    obtain ⟨k, hk, rfl, hs, hr, hx⟩ := hrel
    by_cases hlt : k < l.length
    · obtain ⟨g, o, rfl, hcell⟩ := HC.out k hlt
      have h1 := hx.cell hcell
      have hb1 := HB.out k
      generalize hbe : l.getD k 0 = b at *
      have HBE := Lib.hid hbe
      clear hbe hcell
      have hi : b / 64 < 4 := by omega
      have h2 := hs.cell (b / 64)
      rw [setC_get _ _ hi] at h2
      unfold u64v at h2
      have h3 := hs.frozen (b / 64)
      go_wp2
      go_roundw
      case rel =>
        refine ⟨k + 1, by omega, by go_num, ?_, hr.far (by simp) _, hx.setCell (by simp) _⟩
        have := hs.set (b / 64) (.int .u64 (bits .or .u64 (wd (ofL (l.take k)) (b / 64) : Int) (IntKind.u64.wrap (2 ^ (b % 64)))))
        rw [or_wd] at this
        have e := setC_put (ofL (l.take k)) (ofL (l.take (k + 1))) (b / 64) (wd (insB (ofL (l.take k)) b) (b / 64)) hi (by rw [ofL_snoc l k hlt, HBE.out]) (fun j _ hj => by rw [ofL_snoc l k hlt, HBE.out]; exact wd_ins_ne _ _ _ hj)
        rw [or_wd, ← e]
        exact this
      case measure => simp [intOf]; omega
    · have hkl : l.take k = l := List.take_of_length_le (by omega)
      rw [hkl] at hs
      clear hkl
      go_wp2_with (first
        | (refine wpl_loadSet rfl (.tmp 3) rfl (w.heap.size + 1) _ (ofL l) rfl hs ?_)
        | (refine wpl_storeSet rfl (.tmp 2) (.tmp 22) rfl w.heap.size _ (ofL l) (fun _ => false) rfl rfl hr ?_))
      exact ret_set rfl rfl rfl hr.setRow ⟨rfl, hx.setRow (Nat.le_refl _) _⟩

/-- The bytes from lo up to k (k itself not). -/
def upTo (lo k : Nat) : Nat → Bool := fun x => decide (lo ≤ x) && decide (x < k)
def rangeB (lo hi : Nat) : Nat → Bool := fun x => decide (lo ≤ x) && decide (x ≤ hi)
theorem upTo_ins (lo k : Nat) (h : lo ≤ k) : insB (upTo lo k) k = upTo lo (k + 1) := by
  funext x
  unfold insB upTo
  rw [Bool.eq_iff_iff]
  simp only [Bool.or_eq_true, Bool.and_eq_true, decide_eq_true_eq, beq_iff_eq]
  omega
theorem upTo_self (lo : Nat) : upTo lo lo = fun _ => false := by
  funext x
  unfold upTo
  rw [Bool.eq_iff_iff]
  simp only [Bool.and_eq_true, decide_eq_true_eq, Bool.false_eq_true, iff_false]
  omega
theorem upTo_range (lo hi k : Nat) (h2 : ¬ k ≤ hi) (h3 : k ≤ hi + 1 ∨ k = lo) : upTo lo k = rangeB lo hi := by
  funext x
  unfold upTo rangeB
  rw [Bool.eq_iff_iff]
  simp only [Bool.and_eq_true, decide_eq_true_eq]
  omega

set_option maxHeartbeats 1000000 in
theorem range_any (lo hi : Nat) (w : World) (hlo : lo < 256) (hhi : hi < 256) :
    Calls Try.prog 17 #[.int .u8 lo, .int .u8 hi] w fun r w' => r = .returned (setV (rangeB lo hi)) ∧ Ext w w' := by
  go_enter Try.func17, Try.ntmps17
  go_wp2
  go_loopw [6] (fun i wr => ∃ k : Nat, lo ≤ k ∧ (k ≤ hi + 1 ∨ k = lo) ∧ i = .int .i64 k ∧ Blk wr (w.heap.size + 1) 25 (setC (upTo lo k)) ∧ Blk wr w.heap.size 25 (setC (fun _ => false)) ∧ Ext w wr) (fun i _ => hi + 1 - (intOf i).toNat)
  case atStart =>
    refine ⟨lo, Nat.le_refl _, .inr rfl, rfl, ?_, ?_, ((Ext.refl w).alloc _).alloc _⟩
    · rw [upTo_self, setC_none]; exact heap_alloc2_new w _ _
    · rw [setC_none]; exact (Blk.new w _ _).alloc _
  case round =>
    obtain ⟨k, hk1, hk2, rfl, hs, hr, hx⟩ := hrel
    by_cases hlt : k ≤ hi
    · have hi4 : k / 64 < 4 := by omega
      have h2 := hs.cell (k / 64)
      rw [setC_get _ _ hi4] at h2
      unfold u64v at h2
      have h3 := hs.frozen (k / 64)
      have h63 : bits .and .i64 (k : Int) 63 = ((k % 64 : Nat) : Int) := by
        have := i64_mask63 k (by omega)
        exact this
      have hb1 : k < 256 := by omega
      clear hk2
      go_wp2
      go_region
      go_wp2
      go_roundw
      case rel =>
        refine ⟨k + 1, by omega, .inl (by omega), by go_num, ?_, (hr.far (by simp) _).drew, (hx.setCell (by simp) _).drew⟩
        have := hs.set (k / 64) (.int .u64 (bits .or .u64 (wd (upTo lo k) (k / 64) : Int) (IntKind.u64.wrap (2 ^ (k % 64)))))
        rw [or_wd] at this
        have e := setC_put (upTo lo k) (upTo lo (k + 1)) (k / 64) (wd (insB (upTo lo k) k) (k / 64)) hi4 (by rw [upTo_ins _ _ hk1]) (fun j _ hj => by rw [← upTo_ins _ _ hk1]; exact wd_ins_ne _ _ _ hj)
        rw [or_wd, ← e]
        exact this.drew
      case measure => simp [intOf]; omega
    · have hkl : upTo lo k = rangeB lo hi := upTo_range lo hi k hlt hk2
      rw [hkl] at hs
      clear hkl hk2
      go_wp2_with (first
        | (refine wpl_loadSet rfl (.tmp 5) rfl (w.heap.size + 1) _ (rangeB lo hi) rfl hs ?_)
        | (refine wpl_storeSet rfl (.tmp 4) (.tmp 24) rfl w.heap.size _ (rangeB lo hi) (fun _ => false) rfl rfl hr ?_))
      exact ret_set rfl rfl rfl hr.setRow ⟨rfl, hx.setRow (Nat.le_refl _) _⟩

end Go.Proofs.Ytfgocamajfipmaa
