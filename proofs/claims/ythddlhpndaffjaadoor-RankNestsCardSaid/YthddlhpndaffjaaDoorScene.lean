/- The scene's functions, each as a contract: what New makes in memory, and what the readers answer. Subjects of at most a million bytes. -/
import Derived.Test.YthddlhpndaffjaaDoorProg
import Derived.Test.YthddlhpndaffjaaDoorLib
namespace Go.Proofs.YthddlhpndaffjaaDoor
open Go.RowKit

theorem info_u8 : (Tryd.prog.info? 5).map (fun i => (i.zero, i.size, i.bytes)) = some (some (.int .u8 0), 1, 1) := by kernel_rfl

/-- A scene in memory: its text and its marks. -/
def IsScene (w : World) (p : Value) (s : ByteArray) (m : List UInt8) : Prop :=
  ∃ g g', p = .pointer (some ⟨g, 0, none⟩) ∧ Blk w g 106 #[.string s, .slice (some ⟨g', 0, none⟩) m.length m.length] ∧ Blk w g' 5 (u8s m)

theorem IsScene.ext {w w' : World} {p : Value} {s : ByteArray} {m : List UInt8} (h : IsScene w p s m) (hx : Ext w w') : IsScene w' p s m := by
  obtain ⟨g, g', h0, h1, h2⟩ := h
  exact ⟨g, g', h0, h1.ext hx, h2.ext hx⟩

/-- A place's mark, of the two bits. -/
def mk (b e : Bool) : UInt8 := (if b then 1 else 0) ||| (if e then 2 else 0)
theorem mk_or2 (b e : Bool) : mk b e ||| 2 = mk b true := by cases b <;> cases e <;> rfl
theorem mk_or1 (b e : Bool) : mk b e ||| 1 = mk true e := by cases b <;> cases e <;> rfl

/-- Is place i a beginning, an end, when the first k bytes have been looked at? -/
def mB (s : ByteArray) (c e : Int) (k i : Nat) : Bool :=
  (i == 0 && (bits .and .i64 e 1 == 0)) || (!(bits .and .i64 c 4 == 0) && (decide (0 < i ∧ i ≤ k) && (s.data.toList.getD (i - 1) 0 == 10)))
def mE (s : ByteArray) (c e : Int) (k i : Nat) : Bool :=
  (i == s.size && (bits .and .i64 e 2 == 0)) || (!(bits .and .i64 c 4 == 0) && (decide (i < k) && (s.data.toList.getD i 0 == 10)))
def mkAt (s : ByteArray) (c e : Int) (k : Nat) : List UInt8 := (List.range (s.size + 1)).map fun i => mk (mB s c e k i) (mE s c e k i)
@[simp] theorem mkAt_len (s : ByteArray) (c e : Int) (k : Nat) : (mkAt s c e k).length = s.size + 1 := by simp [mkAt]
theorem mkAt_get (s : ByteArray) (c e : Int) (k i : Nat) (h : i < s.size + 1) : (mkAt s c e k).getD i 0 = mk (mB s c e k i) (mE s c e k i) := by
  simp [mkAt, List.getD_eq_getElem?_getD, h]

theorem mkAt_start (s : ByteArray) (c e : Int) (l1 : List UInt8)
    (h1 : (if (bits .and .i64 e 1 == 0) = true then (List.replicate (s.size + 1) 0).set 0 1 else List.replicate (s.size + 1) (0 : UInt8)) = l1) :
    (if (bits .and .i64 e 2 == 0) = true then l1.set s.size (l1.getD s.size 0 ||| 2) else l1) = mkAt s c e 0 := by
  have e1 : l1 = (List.range (s.size + 1)).map fun i => mk (i == 0 && (bits .and .i64 e 1 == 0)) false := by
    subst h1
    apply List.ext_getElem
    · split <;> simp
    · intro i a b
      by_cases h : (bits .and .i64 e 1 == 0) = true
      · simp only [h, ↓reduceIte, List.getElem_set, List.getElem_map, List.getElem_range, List.getElem_replicate]
        by_cases h0 : 0 = i
        · subst h0; simp; rfl
        · rw [if_neg h0]
          have h0' : (i == 0) = false := by rw [beq_eq_false_iff_ne]; omega
          rw [h0']; rfl
      · simp only [h, Bool.false_eq_true, ↓reduceIte, List.getElem_map, List.getElem_replicate, Bool.and_false]
        rfl
  have e2 : mkAt s c e 0 = (List.range (s.size + 1)).map fun i => mk (i == 0 && (bits .and .i64 e 1 == 0)) (i == s.size && (bits .and .i64 e 2 == 0)) := by
    unfold mkAt
    apply List.map_congr_left
    intro i hi
    congr 1
    · unfold mB
      have : decide (0 < i ∧ i ≤ 0) = false := by simp; omega
      rw [this]; simp
    · unfold mE
      simp
  rw [e2]
  subst e1
  apply List.ext_getElem
  · split <;> simp
  · intro i a b
    have hi : i < s.size + 1 := by simpa using b
    by_cases h : (bits .and .i64 e 2 == 0) = true
    · simp only [h, ↓reduceIte, List.getElem_set, List.getElem_map, List.getElem_range]
      by_cases h0 : s.size = i
      · subst h0
        rw [if_pos rfl]
        rw [List.getD_eq_getElem?_getD]
        simp only [List.length_map, List.length_range, Nat.lt_add_one, getElem?_pos, List.getElem_map, List.getElem_range, Option.getD_some, beq_self_eq_true, Bool.and_true]
        exact mk_or2 _ _
      · rw [if_neg h0]
        have h0' : (i == s.size) = false := by rw [beq_eq_false_iff_ne]; omega
        rw [h0']; rfl
    · simp only [h, Bool.false_eq_true, ↓reduceIte, List.getElem_map, List.getElem_range, Bool.and_false]

theorem mkAt_hit (s : ByteArray) (c e : Int) (k : Nat) (hk : k < s.size) (hc : (bits .and .i64 c 4 == 0) = false) (hb : s.data.toList.getD k 0 = 10) :
    ((mkAt s c e k).set k ((mkAt s c e k).getD k 0 ||| 2)).set (k + 1) ((mkAt s c e k).getD (k + 1) 0 ||| 1) = mkAt s c e (k + 1) := by
  have hb' : (s.data.toList.getD k 0 == 10) = true := by rw [hb]; rfl
  rw [mkAt_get _ _ _ _ k (by omega), mkAt_get _ _ _ _ (k + 1) (by omega), mk_or2, mk_or1]
  apply List.ext_getElem
  · simp
  · intro i a b
    simp only [List.getElem_set]
    have g : ∀ k' (h : i < (mkAt s c e k').length), (mkAt s c e k')[i] = mk (mB s c e k' i) (mE s c e k' i) := by intro k' h; simp [mkAt]
    rw [g, g]
    by_cases h1 : k + 1 = i
    · subst h1
      rw [if_pos rfl]
      have d1 : decide (0 < k + 1 ∧ k + 1 ≤ k + 1) = true := by simp
      have d2 : decide (k + 1 < k + 1) = false := by simp
      have d3 : decide (k + 1 < k) = false := by simp
      have e1 : mB s c e (k + 1) (k + 1) = true := by unfold mB; rw [hc, d1, Nat.add_sub_cancel, hb']; simp
      have e2 : mE s c e (k + 1) (k + 1) = mE s c e k (k + 1) := by unfold mE; rw [d2, d3]
      rw [e1, e2]
    · rw [if_neg h1]
      by_cases h2 : k = i
      · subst h2
        rw [if_pos rfl]
        have d1 : decide (k < k + 1) = true := by simp
        have d2 : decide (0 < k ∧ k ≤ k + 1) = decide (0 < k ∧ k ≤ k) := by rw [decide_eq_decide]; omega
        have e1 : mE s c e (k + 1) k = true := by unfold mE; rw [hc, d1, hb']; simp
        have e2 : mB s c e (k + 1) k = mB s c e k k := by unfold mB; rw [d2]
        rw [e1, e2]
      · rw [if_neg h2]
        have e1 : mE s c e (k + 1) i = mE s c e k i := by
          unfold mE
          have : decide (i < k + 1) = decide (i < k) := by rw [decide_eq_decide]; omega
          rw [this]
        have e2 : mB s c e (k + 1) i = mB s c e k i := by
          unfold mB
          have : decide (0 < i ∧ i ≤ k + 1) = decide (0 < i ∧ i ≤ k) := by rw [decide_eq_decide]; omega
          rw [this]
        rw [e1, e2]

theorem mkAt_miss (s : ByteArray) (c e : Int) (k : Nat) (hb : ¬ s.data.toList.getD k 0 = 10) : mkAt s c e k = mkAt s c e (k + 1) := by
  unfold mkAt
  apply List.map_congr_left
  intro i _
  have hb' : (s.data.toList.getD k 0 == 10) = false := by simpa using hb
  congr 1
  · unfold mB
    by_cases h : i = k + 1
    · subst h; simp only [Nat.add_sub_cancel, hb', Bool.and_false]
    · have : decide (0 < i ∧ i ≤ k + 1) = decide (0 < i ∧ i ≤ k) := by rw [decide_eq_decide]; omega
      rw [this]
  · unfold mE
    by_cases h : i = k
    · subst h; simp only [hb', Bool.and_false]
    · have : decide (i < k + 1) = decide (i < k) := by rw [decide_eq_decide]; omega
      rw [this]

theorem mkAt_off (s : ByteArray) (c e : Int) (k k' : Nat) (hc : (bits .and .i64 c 4 == 0) = true) : mkAt s c e k = mkAt s c e k' := by
  unfold mkAt mB mE
  simp [hc]

theorem getD_byte (s : ByteArray) (k : Nat) (h : k < s.size) : s.data.toList.getD k 0 = s[k] := by
  have : k < s.data.toList.length := by simpa using h
  rw [List.getD_eq_getElem?_getD, List.getElem?_eq_getElem this]
  rfl

theorem made_row (n : Nat) (hn : n ≤ 100000000) (W : World) : (Instr.makeSlice 43 (.int .i64 (n : Int)) (.int .i64 (n : Int))).run Tryd.prog W =
    .ok (.slice (some ⟨W.heap.size, 0, none⟩) n n) (W.alloc (.cells (u8s (List.replicate n 0)) 5)) := by
  obtain ⟨i0, hi0, hz0, hz1, hz2⟩ := info_parts info_u8
  have := run_make (P := Tryd.prog) W 43 5 i0 (.int .u8 0) Tryd.underlying43 hi0 hz0 .i64 .i64 (n : Int) (n : Int) (by omega) (by omega) (by rw [hz2]; omega) (by omega)
  rw [this]
  rw [Int.toNat_natCast, hz1, Nat.mul_one]
  simp [Value.cells, made_u8]

set_option maxHeartbeats 2000000 in
theorem new_any (s : ByteArray) (c e : Int) (w : World) (hs : s.size ≤ 1000000) :
    Calls Tryd.prog 38 #[.string s, .int .i64 c, .int .i64 e] w fun r w' => (∃ p, r = .returned p ∧ IsScene w' p s (mkAt s c e s.size)) ∧ Ext w w' := by
  have hmk := fun W => made_row (s.size + 1) (by omega) W
  simp only [Int.natCast_add, Int.cast_ofNat_Int] at hmk
  go_enter Tryd.func38, Tryd.ntmps38
  go_upto_region 1 with fail
  go_cut [7] (fun p wx => ∃ g g', p = .pointer (some ⟨g, 0, none⟩) ∧ Blk wx g 106 #[.string s, .slice (some ⟨g', 0, none⟩) (s.size + 1) (s.size + 1)] ∧ Blk wx g' 5 (u8s (List.replicate (s.size + 1) 0)) ∧ Ext w wx ∧ w.heap.size ≤ g' ∧ w.heap.size ≤ g)
  case first =>
    go_wp2
    go_meet
    case rel =>
      exact ⟨w.heap.size + 1, w.heap.size, rfl, by simpa using Blk.new (w.alloc _) 106 _, (Blk.new w 5 _).alloc _, ((Ext.refl w).alloc _).alloc _, by omega, by omega⟩
  case rest =>
    obtain ⟨g, g', rfl, h1, h2, hx, hg, hg'⟩ := hcut
    have hne : g ≠ g' := h1.ne h2 (by decide)
    clear hmk
    have hn : 0 < s.size + 1 := by omega
    go_upto_if 18 with fail
    go_cut [] (fun wx => Blk wx g 106 #[.string s, .slice (some ⟨g', 0, none⟩) (s.size + 1) (s.size + 1)] ∧ Blk wx g' 5 (u8s (if (bits .and .i64 e 1 == 0) = true then (List.replicate (s.size + 1) 0).set 0 1 else List.replicate (s.size + 1) 0)) ∧ Ext w wx)
    case first =>
      by_cases b1 : (bits .and .i64 e 1 == 0) = true
      · have c1 := h1.cell 1
        simp at c1
        have c2 := h2.cell 0
        rw [u8s_get _ _ (by simp)] at c2
        simp at c2
        have f2 := h2.frozen 0
        go_wp2
        go_meet
        case rel =>
          rw [if_pos b1]
          refine ⟨h1.far (by exact hne) _, ?_, hx.setCell (by exact hg) _⟩
          rw [← u8s_set]
          exact h2.set 0 _
      · go_wp2
        go_meet
        case rel =>
          rw [if_neg b1]
          exact ⟨h1, h2, hx⟩
    case rest =>
      obtain ⟨h1, h2, hx⟩ := hcut
      generalize hl1 : (if (bits .and .i64 e 1 == 0) = true then (List.replicate (s.size + 1) 0).set 0 1 else List.replicate (s.size + 1) (0 : UInt8)) = l1 at h2
      have hlen : s.size < l1.length := by subst hl1; split <;> simp
      have HL1 := Lib.hid hl1; clear hl1
      go_upto_if 29 with fail
      go_cut [] (fun wx => Blk wx g 106 #[.string s, .slice (some ⟨g', 0, none⟩) (s.size + 1) (s.size + 1)] ∧ Blk wx g' 5 (u8s (if (bits .and .i64 e 2 == 0) = true then l1.set s.size (l1.getD s.size 0 ||| 2) else l1)) ∧ Ext w wx)
      case first =>
        by_cases b1 : (bits .and .i64 e 2 == 0) = true
        · have c1 := h1.cell 1
          simp at c1
          have c2 := h2.cell s.size
          rw [u8s_get _ _ hlen] at c2
          have f2 := h2.frozen s.size
          generalize hy : l1.getD s.size 0 = y at *
          have HY := Lib.hid hy; clear hy
          go_wp2
          go_meet
          case rel =>
            rw [if_pos b1]
            refine ⟨h1.far (by exact hne) _, ?_, hx.setCell (by exact hg) _⟩
            rw [← u8s_set, ← or2]
            exact h2.set s.size _
        · go_wp2
          go_meet
          case rel =>
            rw [if_neg b1]
            exact ⟨h1, h2, hx⟩
      case rest =>
        obtain ⟨h1, h2, hx⟩ := hcut
        rw [mkAt_start s c e l1 HL1.out] at h2
        clear HL1
        go_wp2
        go_loopw [8] (fun i wr => ∃ k : Nat, k ≤ s.size ∧ i = .int .i64 k ∧ Blk wr g 106 #[.string s, .slice (some ⟨g', 0, none⟩) (s.size + 1) (s.size + 1)] ∧ Blk wr g' 5 (u8s (mkAt s c e k)) ∧ Ext w wr) (fun i _ => s.size - (intOf i).toNat)
        case atStart => exact ⟨0, Nat.zero_le _, rfl, h1, h2, hx⟩
        case round =>
          clear h1 h2 hx
          obtain ⟨k, hk, rfl, h1, h2, hx⟩ := hrel
          by_cases hlt : k < s.size
          · cases hb1 : (bits .and .i64 c 4 == 0)
            · have hb2 : (bits .and .i64 c 4 != 0) = true := by simpa using hb1
              have hlen : k < (mkAt s c e k).length := by simp; omega
              have hlen1 : k + 1 < (mkAt s c e k).length := by simp; omega
              have HC := Lib.hid hb1
              clear hb1
              by_cases hb : s[k].toNat = 10
              · have hb3 : ((s[k].toNat : Int) == 10) = true := by rw [hb]; rfl
                have HK := Lib.hid (mkAt_hit s c e k hlt HC.out (by rw [getD_byte s k hlt]; exact UInt8.toNat_inj.1 hb))
                clear hb
                have c1 := h1.cell 1
                simp at c1
                have c2 := h2.cell k
                rw [u8s_get _ _ hlen] at c2
                have f2 := h2.frozen k
                have c3 := h2.cell (k + 1)
                rw [u8s_get _ _ hlen1] at c3
                have f3 := h2.frozen (k + 1)
                generalize hy : (mkAt s c e k).getD k 0 = y at *
                have HY := Lib.hid hy; clear hy
                generalize hz : (mkAt s c e k).getD (k + 1) 0 = z at *
                have HZ := Lib.hid hz; clear hz
                go_wp2
                go_roundw
                case rel =>
                  refine ⟨k + 1, hlt, by go_num, (h1.far (by exact hne) _).far (by exact hne) _, ?_, (hx.setCell (by exact hg) _).setCell (by exact hg) _⟩
                  have K := HK.out
                  rw [← K, ← u8s_set, ← u8s_set, ← or2, ← or1]
                  exact (h2.set k _).set (k + 1) _
                case measure => simp [intOf]; omega
              · have hb3 : ((s[k].toNat : Int) == 10) = false := by rw [beq_eq_false_iff_ne]; omega
                have HK := Lib.hid (mkAt_miss s c e k (by rw [getD_byte s k hlt]; intro h; exact hb (by rw [h]; rfl)))
                clear hb
                go_wp2
                go_roundw
                case rel =>
                  refine ⟨k + 1, hlt, by go_num, h1, ?_, hx⟩
                  rw [← HK.out]; exact h2
                case measure => simp [intOf]; omega
            · have hb2 : (bits .and .i64 c 4 != 0) = false := by simpa using hb1
              have HC := Lib.hid hb1
              clear hb1
              go_wp2
              go_ret
              exact ⟨⟨_, rfl, g, g', rfl, by simpa using h1, by rw [mkAt_off s c e s.size k HC.out]; exact h2⟩, hx⟩
          · have hks : k = s.size := by omega
            have HKS := Lib.hid hks; clear hks
            go_wp2
            go_ret
            exact ⟨⟨_, rfl, g, g', rfl, by simpa using h1, by rw [← HKS.out]; exact h2⟩, hx⟩

/-- What Marks answers. -/
def sMark (m : List UInt8) (i : Int) : Int := if 0 ≤ i ∧ i < m.length then ((m.getD i.toNat 0).toNat : Int) else 0

set_option maxHeartbeats 400000 in
theorem marks_any (p : Value) (s : ByteArray) (m : List UInt8) (i : Int) (w : World) (_hm : m.length ≤ 10000000) (h : IsScene w p s m) :
    Calls Tryd.prog 107 #[p, .int .i64 i] w fun r w' => r = .returned (.int .i64 (sMark m i)) ∧ w = w' := by
  obtain ⟨g, g', rfl, h1, h2⟩ := h
  have c1 := h1.cell 1
  simp at c1
  by_cases h0 : 0 ≤ i
  · obtain ⟨n, rfl⟩ := Int.eq_ofNat_of_zero_le h0
    have h0b : decide ((n : Int) < 0) = false := by simp
    by_cases hn : n < m.length
    · have c2 := h2.cell n
      rw [u8s_get _ _ hn] at c2
      have hf : sMark m n = ((m.getD n 0).toNat : Int) := by unfold sMark; rw [if_pos ⟨h0, by omega⟩, Int.toNat_natCast]
      have Hf := Lib.hid hf; clear hf
      generalize m.getD n 0 = y at *
      go_enter Tryd.func107, Tryd.ntmps107
      go_wp2
      go_ret
      exact ⟨ret_int (by rw [Hf.out]; exact wrap64_b _), rfl⟩
    · have hf : sMark m n = 0 := by unfold sMark; rw [if_neg (by omega)]
      have Hf := Lib.hid hf; clear hf
      go_enter Tryd.func107, Tryd.ntmps107
      go_wp2
      go_ret
      exact ⟨ret_int (by rw [Hf.out]), rfl⟩
  · have h0b : decide (i < 0) = true := by simp; omega
    have hf : sMark m i = 0 := by unfold sMark; rw [if_neg (by omega)]
    have Hf := Lib.hid hf; clear hf
    go_enter Tryd.func107, Tryd.ntmps107
    go_wp2
    go_ret
    exact ⟨ret_int (by rw [Hf.out]), rfl⟩

def sBegin (m : List UInt8) (i : Int) : Bool := bits .and .i64 (sMark m i) 1 != 0
def sEnd (m : List UInt8) (i : Int) : Bool := bits .and .i64 (sMark m i) 2 != 0

set_option maxHeartbeats 400000 in
theorem begin_any (p : Value) (s : ByteArray) (m : List UInt8) (i : Int) (w : World) (hm : m.length ≤ 10000000) (h : IsScene w p s m) :
    Calls Tryd.prog 92 #[p, .int .i64 i] w fun r w' => r = .returned (.bool (sBegin m i)) ∧ w = w' := by
  have H := Lib.hid (fun W => marks_any p s m i W hm)
  go_enter Tryd.func92, Tryd.ntmps92
  go_wp2_with (go_at_call 107; refine (H.out _ h).mono ?_; rintro e w1 ⟨rfl, rfl⟩)
  go_ret
  exact ⟨rfl, rfl⟩

set_option maxHeartbeats 400000 in
theorem end_any (p : Value) (s : ByteArray) (m : List UInt8) (i : Int) (w : World) (hm : m.length ≤ 10000000) (h : IsScene w p s m) :
    Calls Tryd.prog 93 #[p, .int .i64 i] w fun r w' => r = .returned (.bool (sEnd m i)) ∧ w = w' := by
  have H := Lib.hid (fun W => marks_any p s m i W hm)
  go_enter Tryd.func93, Tryd.ntmps93
  go_wp2_with (go_at_call 107; refine (H.out _ h).mono ?_; rintro e w1 ⟨rfl, rfl⟩)
  go_ret
  exact ⟨rfl, rfl⟩

set_option maxHeartbeats 400000 in
theorem len_any (p : Value) (s : ByteArray) (m : List UInt8) (w : World) (h : IsScene w p s m) :
    Calls Tryd.prog 90 #[p] w fun r w' => r = .returned (.int .i64 s.size) ∧ w = w' := by
  obtain ⟨g, g', rfl, h1, h2⟩ := h
  have c1 := h1.cell 0
  simp at c1
  go_enter Tryd.func90, Tryd.ntmps90
  go_wp2
  go_ret
  exact ⟨rfl, rfl⟩

/-- What Byte answers: the byte, and whether there is one. -/
def sByte (s : ByteArray) (i : Int) : Int := if 0 ≤ i ∧ i < s.size then ((s.data.toList.getD i.toNat 0).toNat : Int) else 0
def sHas (s : ByteArray) (i : Int) : Bool := decide (0 ≤ i ∧ i < s.size)

set_option maxHeartbeats 400000 in
theorem byte_any (p : Value) (s : ByteArray) (m : List UInt8) (i : Int) (w : World) (h : IsScene w p s m) :
    Calls Tryd.prog 94 #[p, .int .i64 i] w fun r w' => r = .returned (.tuple #[.int .u8 (sByte s i), .bool (sHas s i)]) ∧ w = w' := by
  obtain ⟨g, g', rfl, h1, h2⟩ := h
  have c1 := h1.cell 0
  simp at c1
  by_cases h0 : 0 ≤ i
  · have h0b : decide (i < 0) = false := by simpa using h0
    by_cases hn : i < s.size
    · have hn' : i.toNat < s.size := by omega
      have hf : sByte s i = (s[i.toNat].toNat : Int) := by unfold sByte; rw [if_pos ⟨h0, hn⟩, getD_byte s _ hn']
      have Hf := Lib.hid hf; clear hf
      have hg : sHas s i = true := by unfold sHas; simp; omega
      have Hg := Lib.hid hg; clear hg
      go_enter Tryd.func94, Tryd.ntmps94
      go_wp2
      go_ret2
      exact ⟨by rw [Hf.out, Hg.out]; rfl, rfl⟩
    · have hf : sByte s i = 0 := by unfold sByte; rw [if_neg (by omega)]
      have Hf := Lib.hid hf; clear hf
      have hg : sHas s i = false := by unfold sHas; simp; omega
      have Hg := Lib.hid hg; clear hg
      go_enter Tryd.func94, Tryd.ntmps94
      go_wp2
      go_ret2
      exact ⟨by rw [Hf.out, Hg.out]; rfl, rfl⟩
  · have h0b : decide (i < 0) = true := by simp; omega
    have hf : sByte s i = 0 := by unfold sByte; rw [if_neg (by omega)]
    have Hf := Lib.hid hf; clear hf
    have hg : sHas s i = false := by unfold sHas; simp; omega
    have Hg := Lib.hid hg; clear hg
    go_enter Tryd.func94, Tryd.ntmps94
    go_wp2
    go_ret2
    exact ⟨by rw [Hf.out, Hg.out]; rfl, rfl⟩

end Go.Proofs.YthddlhpndaffjaaDoor
