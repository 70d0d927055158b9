/- The program's Join, Meet and Count as contracts over the sets' bytes. No condition but the number of sets that come in. -/
import Derived.Test.YtfgocamajfipmaaSetA
namespace Go.Proofs.Ytfgocamajfipmaa
open Go.RowKit

/-- Four words. -/
def wC (a : Nat → Nat) : Array Value := #[u64v (a 0), u64v (a 1), u64v (a 2), u64v (a 3)]
theorem wC_get (a : Nat → Nat) (i : Nat) (h : i < 4) : (wC a)[i]? = some (u64v (a i)) := by
  rcases (show i = 0 ∨ i = 1 ∨ i = 2 ∨ i = 3 from by omega) with rfl | rfl | rfl | rfl <;> rfl
/-- The first k words of one, the others of another one. -/
def mix (a b : Nat → Nat) (k : Nat) : Nat → Nat := fun j => if j < k then a j else b j
theorem mix_zero (a b : Nat → Nat) : mix a b 0 = b := by funext j; unfold mix; rw [if_neg (by omega)]
theorem mix_at (a b : Nat → Nat) (k : Nat) : mix a b k k = b k := by unfold mix; rw [if_neg (by omega)]
theorem wC_full (a b : Nat → Nat) (k : Nat) (h : 4 ≤ k) : wC (mix a b k) = wC a := by
  unfold wC mix
  rw [if_pos (by omega), if_pos (by omega), if_pos (by omega), if_pos (by omega)]
theorem wC_put (a b : Nat → Nat) (k : Nat) (h : k < 4) : (wC (mix a b k)).setIfInBounds k (u64v (a k)) = wC (mix a b (k + 1)) := by
  unfold wC mix
  rcases (show k = 0 ∨ k = 1 ∨ k = 2 ∨ k = 3 from by omega) with rfl | rfl | rfl | rfl <;> rfl
theorem setC_wC (p : Nat → Bool) : setC p = wC (wd p) := rfl

def noB : Nat → Bool := fun _ => false
/-- A slice of sets reads as a list. -/
def RdS (w : World) (v : Value) (ps : List (Nat → Bool)) : Prop :=
  ∃ A c, v = .slice A ps.length c ∧ ∀ j, j < ps.length → ∃ g o, A = some ⟨g, o, none⟩ ∧ ∀ i, i < 4 → w.cell? ⟨g, o + j * 4 + i, none⟩ = some (u64v (wd (ps.getD j noB) i))
theorem RdS.ext {w w' : World} {v : Value} {ps : List (Nat → Bool)} (h : RdS w v ps) (hx : Ext w w') : RdS w' v ps := by
  obtain ⟨A, c, hv, hc⟩ := h
  exact ⟨A, c, hv, fun j hj => by obtain ⟨g, o, hA, hcell⟩ := hc j hj; exact ⟨g, o, hA, fun i hi => hx.cell (hcell i hi)⟩⟩

def joinL (ps : List (Nat → Bool)) : Nat → Bool := fun b => ps.any (· b)
def meetL (ps : List (Nat → Bool)) : Nat → Bool := fun b => ps.all (· b)
theorem take_snocL {α : Type} (l : List α) (d : α) (k : Nat) (h : k < l.length) : l.take (k + 1) = l.take k ++ [l.getD k d] := by
  rw [List.take_succ_eq_append_getElem h, List.getD_eq_getElem?_getD, List.getElem?_eq_getElem h]
  rfl
theorem joinL_snoc (ps : List (Nat → Bool)) (k : Nat) (h : k < ps.length) : joinL (ps.take (k + 1)) = fun b => joinL (ps.take k) b || ps.getD k noB b := by
  funext b
  unfold joinL
  rw [take_snocL ps noB k h, List.any_append]
  simp
theorem meetL_snoc (ps : List (Nat → Bool)) (k : Nat) (h : k < ps.length) : meetL (ps.take (k + 1)) = fun b => meetL (ps.take k) b && ps.getD k noB b := by
  funext b
  unfold meetL
  rw [take_snocL ps noB k h, List.all_append]
  simp

theorem or_words (p q : Nat → Bool) (i : Nat) : bits .or .u64 (wd p i : Int) (wd q i : Int) = (wd (fun b => p b || q b) i : Int) := by
  rw [u64_or_nat _ _ (wd_lt p i) (wd_lt q i), wd_or]
theorem and_words (p q : Nat → Bool) (i : Nat) : bits .and .u64 (wd p i : Int) (wd q i : Int) = (wd (fun b => p b && q b) i : Int) := by
  rw [u64_and_nat _ _ (wd_lt p i) (wd_lt q i), wd_and]

set_option maxHeartbeats 4000000 in
theorem join_any (ps : List (Nat → Bool)) (v : Value) (w : World) (hv : RdS w v ps) (hl : ps.length ≤ 1000000000000) :
    Calls Try.prog 10 #[v] w fun r w' => r = .returned (setV (joinL ps)) ∧ Ext w w' := by
  obtain ⟨A, c, rfl, hc⟩ := hv
  have HC := Lib.hid hc
  clear hc
  go_enter Try.func10, Try.ntmps10
  go_wp2
  go_loopw [5, 6, 9, 13] (fun _ _ i _ wr => ∃ k : Nat, k ≤ ps.length ∧ i = .int .i64 k ∧ Blk wr (w.heap.size + 1) 25 (setC (joinL (ps.take k))) ∧ Blk wr w.heap.size 25 (setC (fun _ => false)) ∧ Ext w wr) (fun _ _ i _ _ => ps.length - (intOf i).toNat)
  case atStart =>
    refine ⟨0, Nat.zero_le _, rfl, ?_, ?_, ((Ext.refl w).alloc _).alloc _⟩
    · rw [show joinL (ps.take 0) = fun _ => false from rfl, setC_none]; exact heap_alloc2_new w _ _
    · rw [setC_none]; exact (Blk.new w _ _).alloc _
  case round =>
    obtain ⟨k, hk, rfl, hs, hr, hx⟩ := hrel
    by_cases hlt : k < ps.length
    · obtain ⟨g, o, rfl, hcell⟩ := HC.out k hlt
      have JS := Lib.hid (joinL_snoc ps k hlt)
      have c0 := hx.cell (hcell 0 (by omega))
      have c1 := hx.cell (hcell 1 (by omega))
      have c2 := hx.cell (hcell 2 (by omega))
      have c3 := hx.cell (hcell 3 (by omega))
      generalize ps.getD k noB = q at *
      generalize joinL (ps.take k) = p at *
      clear hcell HC
      rw [Nat.add_zero] at c0
      unfold u64v at c0 c1 c2 c3
      have hz := hx.size
      have hz2 := hs.lt
      go_wp2
      have hq : Blk (wr.alloc (.cells #[.int .u64 (wd q 0 : Int), .int .u64 (wd q 1 : Int), .int .u64 (wd q 2 : Int), .int .u64 (wd q 3 : Int)] 25)) wr.heap.size 25 (setC q) := Blk.new wr _ _
      have hs2 := hs.alloc (.cells #[.int .u64 (wd q 0 : Int), .int .u64 (wd q 1 : Int), .int .u64 (wd q 2 : Int), .int .u64 (wd q 3 : Int)] 25)
      have hr2 := hr.alloc (.cells #[.int .u64 (wd q 0 : Int), .int .u64 (wd q 1 : Int), .int .u64 (wd q 2 : Int), .int .u64 (wd q 3 : Int)] 25)
      have hx2 := hx.alloc (.cells #[.int .u64 (wd q 0 : Int), .int .u64 (wd q 1 : Int), .int .u64 (wd q 2 : Int), .int .u64 (wd q 3 : Int)] 25)
      clear c0 c1 c2 c3 hs hr hx
      obtain ⟨G, HG⟩ : ∃ G, Hid (G = wr.heap.size) := ⟨_, Lib.hid rfl⟩
      rw [← HG.out] at hq ⊢
      rw [← HG.out] at hz hz2
      generalize wr.alloc (.cells #[.int .u64 (wd q 0 : Int), .int .u64 (wd q 1 : Int), .int .u64 (wd q 2 : Int), .int .u64 (wd q 3 : Int)] 25) = wy at *
      clear HG wr
      go_loopw [6, 13] (fun _ i wr => ∃ j : Nat, j ≤ 4 ∧ i = .int .i64 j ∧ Blk wr (w.heap.size + 1) 25 (wC (mix (wd fun b => p b || q b) (wd p) j)) ∧ Blk wr G 25 (setC q) ∧ Blk wr w.heap.size 25 (setC (fun _ => false)) ∧ Ext w wr) (fun _ i _ => 4 - (intOf i).toNat)
      case atStart => exact ⟨0, by omega, rfl, by rw [mix_zero]; exact hs2, hq, hr2, hx2⟩
      case round =>
        clear hs2 hq hr2 hx2
        obtain ⟨j, hj, rfl, hs, hq, hr, hx⟩ := hrel
        by_cases hj4 : j < 4
        · have c1 := hs.cell j
          rw [wC_get _ _ hj4, mix_at] at c1
          have c2 := hq.cell j
          rw [setC_get _ _ hj4] at c2
          unfold u64v at c1 c2
          have f1 := hs.frozen j
          go_wp2
          go_region
          go_wp2
          go_roundw
          case rel =>
            have hp := hs.set j (u64v (wd (fun b => p b || q b) j))
            rw [wC_put _ _ _ hj4] at hp
            rw [or_words]
            exact ⟨j + 1, by omega, by go_num, hp.drew, (hq.far (by simp; omega) _).drew, (hr.far (by simp) _).drew, (hx.setCell (by simp) _).drew⟩
          case measure => simp [intOf]; omega
        · rw [wC_full _ _ _ (by omega)] at hs
          go_wp2
          go_roundw
          case rel => exact ⟨k + 1, by omega, by go_num, by rw [JS.out]; exact hs, hr, hx⟩
          case measure => simp [intOf]; omega
    · rw [List.take_of_length_le (by omega)] at hs
      go_wp2_with (first
        | (refine wpl_loadSet rfl (.tmp 3) rfl (w.heap.size + 1) _ (joinL ps) rfl hs ?_)
        | (refine wpl_storeSet rfl (.tmp 2) (.tmp 26) rfl w.heap.size _ (joinL ps) (fun _ => false) rfl rfl hr ?_))
      exact ret_set rfl rfl rfl hr.setRow ⟨rfl, hx.setRow (Nat.le_refl _) _⟩

theorem wd_full (i : Nat) : wd (fun b => !noB b) i = wd (fun _ => true) i := rfl
theorem not_zero (w : World) : Calls Try.prog 13 #[.agg #[.int .u64 0, .int .u64 0, .int .u64 0, .int .u64 0]] w fun r w' => r = .returned (.agg #[.int .u64 (wd (fun _ => true) 0 : Int), .int .u64 (wd (fun _ => true) 1 : Int), .int .u64 (wd (fun _ => true) 2 : Int), .int .u64 (wd (fun _ => true) 3 : Int)]) ∧ Ext w w' := by
  have h := not_any noB w
  have e : setV noB = .agg #[.int .u64 0, .int .u64 0, .int .u64 0, .int .u64 0] := by
    unfold setV u64v noB
    rw [wd_none, wd_none, wd_none, wd_none]
    rfl
  rw [e] at h
  exact h

set_option maxHeartbeats 4000000 in
theorem meet_any (ps : List (Nat → Bool)) (v : Value) (w : World) (hv : RdS w v ps) (hl : ps.length ≤ 1000000000000) :
    Calls Try.prog 11 #[v] w fun r w' => r = .returned (setV (meetL ps)) ∧ Ext w w' := by
  obtain ⟨A, c, rfl, hc⟩ := hv
  have HC := Lib.hid hc
  clear hc
  go_enter Try.func11, Try.ntmps11
  go_wp2_with (go_at_call 13; refine (not_zero _).mono ?_; rintro e w1 ⟨rfl, hx1⟩)
  have hz1 := hx1.size
  rw [World.size_alloc] at hz1
  have hr1 : Blk w1 w.heap.size 25 (setC (fun _ => false)) := by rw [setC_none]; exact (Blk.new w _ _).ext hx1
  have hxx : Ext w w1 := ((Ext.refl w).alloc _).trans hx1
  obtain ⟨B, HB⟩ : ∃ B, Hid (B = w1.heap.size) := ⟨_, Lib.hid rfl⟩
  have hs1 := Blk.new w1 25 (setC (fun _ => true))
  have hr2 := hr1.alloc (.cells (setC (fun _ => true)) 25)
  have hx2 := hxx.alloc (.cells (setC (fun _ => true)) 25)
  clear hr1 hxx hx1
  unfold setC u64v at hs1 hr2 hx2
  rw [← HB.out] at hs1 hz1 ⊢
  go_loopw [5, 6, 11, 15] (fun _ _ i _ wr => ∃ k : Nat, k ≤ ps.length ∧ i = .int .i64 k ∧ Blk wr B 25 (setC (meetL (ps.take k))) ∧ Blk wr w.heap.size 25 (setC (fun _ => false)) ∧ Ext w wr) (fun _ _ i _ _ => ps.length - (intOf i).toNat)
  case atStart =>
    refine ⟨0, Nat.zero_le _, rfl, ?_, hr2, hx2⟩
    rw [show meetL (ps.take 0) = fun _ => true from rfl]; exact hs1
  case round =>
    obtain ⟨k, hk, rfl, hs, hr, hx⟩ := hrel
    by_cases hlt : k < ps.length
    · obtain ⟨g, o, rfl, hcell⟩ := HC.out k hlt
      have MS := Lib.hid (meetL_snoc ps k hlt)
      have c0 := hx.cell (hcell 0 (by omega))
      have c1 := hx.cell (hcell 1 (by omega))
      have c2 := hx.cell (hcell 2 (by omega))
      have c3 := hx.cell (hcell 3 (by omega))
      generalize ps.getD k noB = q at *
      generalize meetL (ps.take k) = p at *
      clear hcell HC
      rw [Nat.add_zero] at c0
      unfold u64v at c0 c1 c2 c3
      have hz := hx.size
      have hz2 := hs.lt
      go_wp2
      have hq : Blk (wr.alloc (.cells #[.int .u64 (wd q 0 : Int), .int .u64 (wd q 1 : Int), .int .u64 (wd q 2 : Int), .int .u64 (wd q 3 : Int)] 25)) wr.heap.size 25 (setC q) := Blk.new wr _ _
      have hs2 := hs.alloc (.cells #[.int .u64 (wd q 0 : Int), .int .u64 (wd q 1 : Int), .int .u64 (wd q 2 : Int), .int .u64 (wd q 3 : Int)] 25)
      have hr2 := hr.alloc (.cells #[.int .u64 (wd q 0 : Int), .int .u64 (wd q 1 : Int), .int .u64 (wd q 2 : Int), .int .u64 (wd q 3 : Int)] 25)
      have hx2 := hx.alloc (.cells #[.int .u64 (wd q 0 : Int), .int .u64 (wd q 1 : Int), .int .u64 (wd q 2 : Int), .int .u64 (wd q 3 : Int)] 25)
      clear c0 c1 c2 c3 hs hr hx
      obtain ⟨G, HG⟩ : ∃ G, Hid (G = wr.heap.size) := ⟨_, Lib.hid rfl⟩
      rw [← HG.out] at hq ⊢
      rw [← HG.out] at hz hz2
      generalize wr.alloc (.cells #[.int .u64 (wd q 0 : Int), .int .u64 (wd q 1 : Int), .int .u64 (wd q 2 : Int), .int .u64 (wd q 3 : Int)] 25) = wy at *
      clear HG wr
      go_loopw [6, 15] (fun _ i wr => ∃ j : Nat, j ≤ 4 ∧ i = .int .i64 j ∧ Blk wr B 25 (wC (mix (wd fun b => p b && q b) (wd p) j)) ∧ Blk wr G 25 (setC q) ∧ Blk wr w.heap.size 25 (setC (fun _ => false)) ∧ Ext w wr) (fun _ i _ => 4 - (intOf i).toNat)
      case atStart => exact ⟨0, by omega, rfl, by rw [mix_zero]; exact hs2, hq, hr2, hx2⟩
      case round =>
        clear hs2 hq hr2 hx2
        obtain ⟨j, hj, rfl, hs, hq, hr, hx⟩ := hrel
        by_cases hj4 : j < 4
        · have c1 := hs.cell j
          rw [wC_get _ _ hj4, mix_at] at c1
          have c2 := hq.cell j
          rw [setC_get _ _ hj4] at c2
          unfold u64v at c1 c2
          have f1 := hs.frozen j
          go_wp2
          go_region
          go_wp2
          go_roundw
          case rel =>
            have hp := hs.set j (u64v (wd (fun b => p b && q b) j))
            rw [wC_put _ _ _ hj4] at hp
            rw [and_words]
            exact ⟨j + 1, by omega, by go_num, hp.drew, (hq.far (by simp; omega) _).drew, (hr.far (by simp; omega) _).drew, (hx.setCell (by simp; omega) _).drew⟩
          case measure => simp [intOf]; omega
        · rw [wC_full _ _ _ (by omega)] at hs
          go_wp2
          go_roundw
          case rel => exact ⟨k + 1, by omega, by go_num, by rw [MS.out]; exact hs, hr, hx⟩
          case measure => simp [intOf]; omega
    · rw [List.take_of_length_le (by omega)] at hs
      go_wp2_with (first
        | (refine wpl_loadSet rfl (.tmp 3) rfl B _ (meetL ps) rfl hs ?_)
        | (refine wpl_storeSet rfl (.tmp 2) (.tmp 28) rfl w.heap.size _ (meetL ps) (fun _ => false) rfl rfl hr ?_))
      exact ret_set rfl rfl rfl hr.setRow ⟨rfl, hx.setRow (Nat.le_refl _) _⟩

theorem mask85 : dg 8 (fun _ => 85) = 6148914691236517205 := by decide
theorem mask51 : dg 8 (fun _ => 51) = 3689348814741910323 := by decide
theorem mask15 : dg 8 (fun _ => 15) = 1085102592571150095 := by decide

theorem u64_wrap_nat (x : Nat) (h : x < 18446744073709551616) : IntKind.u64.wrap (x : Int) = (x : Int) := by rw [IntKind.wrap_u64]; omega
theorem ones_step (a b M : Nat) (ha : a < 18446744073709551616) (hb : b < 18446744073709551616) (hM : M < 18446744073709551616) (h : (a &&& M) + (b &&& M) < 18446744073709551616) :
    IntKind.u64.wrap (bits .and .u64 (a : Int) (M : Int) + bits .and .u64 (b : Int) (M : Int)) = (((a &&& M) + (b &&& M) : Nat) : Int) := by
  rw [u64_and_nat _ _ ha hM, u64_and_nat _ _ hb hM, ← Int.natCast_add, u64_wrap_nat _ h]
theorem ones_shift (x d : Nat) (h : x + x / d < 18446744073709551616) : IntKind.u64.wrap ((x : Int) + (x : Int) / (d : Int)) = ((x + x / d : Nat) : Int) := by
  rw [← Int.natCast_ediv, ← Int.natCast_add, u64_wrap_nat _ h]

set_option maxHeartbeats 1000000 in
theorem ones_any (p : Nat → Bool) (w : World) :
    Calls Try.prog 24 #[.int .u64 (ofBits p 64 : Int)] w fun r w' => r = .returned (.int .i64 (cntB p 64)) ∧ w = w' := by
  obtain ⟨n, e0⟩ : ∃ n, n = ofBits p 64 := ⟨_, rfl⟩
  obtain ⟨x1, e1⟩ : ∃ x, x = ((n / 2) &&& 6148914691236517205) + (n &&& 6148914691236517205) := ⟨_, rfl⟩
  obtain ⟨x2, e2⟩ : ∃ x, x = ((x1 / 4) &&& 3689348814741910323) + (x1 &&& 3689348814741910323) := ⟨_, rfl⟩
  obtain ⟨x, e3⟩ : ∃ x, x = (x2 / 16 + x2) &&& 1085102592571150095 := ⟨_, rfl⟩
  obtain ⟨a, e4⟩ : ∃ a, a = x + x / 256 := ⟨_, rfl⟩
  obtain ⟨b, e5⟩ : ∃ b, b = a + a / 65536 := ⟨_, rfl⟩
  obtain ⟨c, e6⟩ : ∃ c, c = b + b / 4294967296 := ⟨_, rfl⟩
  obtain ⟨hc, hx, hx1, hx2⟩ := count_word p _ _ _ n x1 x2 x a b c mask85 mask51 mask15 e0 e1 e2 e3 e4 e5 e6
  have hn : n < 18446744073709551616 := by rw [e0]; exact ofBits_lt p 64
  rw [← e0]
  have q1 : IntKind.u64.wrap (bits .and .u64 ((n : Int) / 2) 6148914691236517205 + bits .and .u64 (n : Int) 6148914691236517205) = (x1 : Int) := by
    have := ones_step (n / 2) n 6148914691236517205 (Nat.lt_of_le_of_lt (Nat.div_le_self _ _) hn) hn (by decide) (by rw [← e1]; exact hx1)
    rw [← e1] at this
    exact this
  have q2 : IntKind.u64.wrap (bits .and .u64 ((x1 : Int) / 4) 3689348814741910323 + bits .and .u64 (x1 : Int) 3689348814741910323) = (x2 : Int) := by
    have := ones_step (x1 / 4) x1 3689348814741910323 (Nat.lt_of_le_of_lt (Nat.div_le_self _ _) hx1) hx1 (by decide) (by rw [← e2]; omega)
    rw [← e2] at this
    exact this
  have q3 : bits .and .u64 ((x2 : Int) / 16 + (x2 : Int)) 1085102592571150095 = (x : Int) := by
    have h : (x2 : Int) / 16 + (x2 : Int) = ((x2 / 16 + x2 : Nat) : Int) := by omega
    have := u64_and_nat (x2 / 16 + x2) 1085102592571150095 (by omega) (by decide)
    rw [h, e3]
    exact this
  have hxa : a < 2000000000000000000 := by omega
  have hxb : b < 4000000000000000000 := by omega
  have hxc : c < 8000000000000000000 := by omega
  have q4 : (x : Int) + (x : Int) / 256 = (a : Int) := by omega
  have q5 : (a : Int) + (a : Int) / 65536 = (b : Int) := by omega
  have q6 : (b : Int) + (b : Int) / 4294967296 = (c : Int) := by omega
  have q7 : bits .and .i64 (c : Int) 127 = (cntB p 64 : Int) := by
    rw [← hc]
    have hy : (BitVec.ofInt 64 (c : Int)).toNat = c := by
      rw [BitVec.ofInt_natCast, BitVec.toNat_ofNat]; exact Nat.mod_eq_of_lt (by omega)
    show IntKind.i64.wrap ((BitVec.ofInt 64 (c : Int) &&& BitVec.ofInt 64 127).toNat : Int) = _
    have h127 : (BitVec.ofInt 64 127).toNat = 2 ^ 7 - 1 := by decide
    rw [BitVec.toNat_and, hy, h127, Nat.and_two_pow_sub_one_eq_mod, IntKind.wrap_i64]
    omega
  clear e0 e1 e2 e3 e4 e5 e6 hc
  go_enter Try.func24, Try.ntmps24
  go_wp2
  go_ret
  exact ⟨rfl, rfl⟩
theorem ones_wd (p : Nat → Bool) (i : Nat) (w : World) :
    Calls Try.prog 24 #[.int .u64 (wd p i : Int)] w fun r w' => r = .returned (.int .i64 (cntB (fun k => p (64 * i + k)) 64)) ∧ w = w' := ones_any (fun k => p (64 * i + k)) w
theorem cntB_words (p : Nat → Bool) : cntB p 256 = cntB (fun k => p (64 * 0 + k)) 64 + cntB (fun k => p (64 * 1 + k)) 64 + cntB (fun k => p (64 * 2 + k)) 64 + cntB (fun k => p (64 * 3 + k)) 64 := by
  have h3 := cntB_add p 192 64
  have h2 := cntB_add p 128 64
  have h1 := cntB_add p 64 64
  have e0 : (fun k => p (64 * 0 + k)) = p := by funext k; congr 1; omega
  rw [e0]
  simp only [Nat.reduceMul, Nat.reduceAdd] at *
  omega

set_option maxHeartbeats 2000000 in
theorem count_any (p : Nat → Bool) (w : World) :
    Calls Try.prog 18 #[setV p] w fun r w' => r = .returned (.int .i64 (cntB p 256)) ∧ Ext w w' := by
  have h0 := cntB_le (fun k => p (64 * 0 + k)) 64
  have h1 := cntB_le (fun k => p (64 * 1 + k)) 64
  have h2 := cntB_le (fun k => p (64 * 2 + k)) 64
  have h3 := cntB_le (fun k => p (64 * 3 + k)) 64
  have H0 := Lib.hid (fun W => ones_wd p 0 W)
  have H1 := Lib.hid (fun W => ones_wd p 1 W)
  have H2 := Lib.hid (fun W => ones_wd p 2 W)
  have H3 := Lib.hid (fun W => ones_wd p 3 W)
  have hw := Lib.hid (cntB_words p)
  unfold setV u64v
  generalize cntB (fun k => p (64 * 0 + k)) 64 = n0 at *
  generalize cntB (fun k => p (64 * 1 + k)) 64 = n1 at *
  generalize cntB (fun k => p (64 * 2 + k)) 64 = n2 at *
  generalize cntB (fun k => p (64 * 3 + k)) 64 = n3 at *
  generalize wd p 0 = a0 at *
  generalize wd p 1 = a1 at *
  generalize wd p 2 = a2 at *
  generalize wd p 3 = a3 at *
  have i0 : ∀ w, (Instr.index 25 (.agg #[.int .u64 (a0 : Int), .int .u64 (a1 : Int), .int .u64 (a2 : Int), .int .u64 (a3 : Int)]) (.int .i64 0)).run Try.prog w = .ok (.int .u64 (a0 : Int)) w := fun _ => by kernel_rfl
  have i1 : ∀ w, (Instr.index 25 (.agg #[.int .u64 (a0 : Int), .int .u64 (a1 : Int), .int .u64 (a2 : Int), .int .u64 (a3 : Int)]) (.int .i64 1)).run Try.prog w = .ok (.int .u64 (a1 : Int)) w := fun _ => by kernel_rfl
  have i2 : ∀ w, (Instr.index 25 (.agg #[.int .u64 (a0 : Int), .int .u64 (a1 : Int), .int .u64 (a2 : Int), .int .u64 (a3 : Int)]) (.int .i64 2)).run Try.prog w = .ok (.int .u64 (a2 : Int)) w := fun _ => by kernel_rfl
  have i3 : ∀ w, (Instr.index 25 (.agg #[.int .u64 (a0 : Int), .int .u64 (a1 : Int), .int .u64 (a2 : Int), .int .u64 (a3 : Int)]) (.int .i64 3)).run Try.prog w = .ok (.int .u64 (a3 : Int)) w := fun _ => by kernel_rfl
  go_enter Try.func18, Try.ntmps18
  go_wp2
  refine wp_loop_rounds 5 ?_
  rw [rounds_succ]
  go_wp2_with (go_at_call 24; refine (H0.out _).mono ?_; rintro e w2 ⟨rfl, rfl⟩)
  rw [rounds_succ]
  go_wp2_with (go_at_call 24; refine (H1.out _).mono ?_; rintro e w2 ⟨rfl, rfl⟩)
  rw [rounds_succ]
  go_wp2_with (go_at_call 24; refine (H2.out _).mono ?_; rintro e w2 ⟨rfl, rfl⟩)
  rw [rounds_succ]
  go_wp2_with (go_at_call 24; refine (H3.out _).mono ?_; rintro e w2 ⟨rfl, rfl⟩)
  rw [rounds_succ]
  go_wp2
  go_ret
  exact ⟨ret_int (by rw [hw.out]; omega), (Ext.refl w).alloc _⟩

end Go.Proofs.Ytfgocamajfipmaa
