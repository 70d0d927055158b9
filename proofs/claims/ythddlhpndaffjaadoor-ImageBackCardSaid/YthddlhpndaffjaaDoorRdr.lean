/- image.reader's take and number as contracts. Condition: the reader lies in a block of its own, its bytes in another one. image.reader's node as a contract. Condition: the reader lies in a block of its own, its bytes in another one. -/
import Derived.Test.YthddlhpndaffjaaDoorImgA
import Derived.Test.YthddlhpndaffjaaDoorBytes
import Derived.Test.YthddlhpndaffjaaDoorMid
import Derived.Test.YthddlhpndaffjaaDoorOpt14
import Derived.Deep.RegionWith
namespace Go.Proofs.YthddlhpndaffjaaDoor
open Go Go.RowKit

/-- Where the bytes that are left lie: in a block below D, not the reader's. -/
def Src (W : World) (r D : Nat) (A : Option Addr) (l : List UInt8) : Prop := l = [] ∨ ∃ a, A = some a ∧ a.block ≠ r ∧ a.block < D ∧ RdA W a l
/-- The reader in memory. -/
def RdSt (W : World) (r D : Nat) (s : St) : Prop := ∃ A c, r < D ∧ Blk W r 97 #[.slice A s.1.length c, .bool s.2] ∧ s.1.length ≤ c ∧ Src W r D A s.1
theorem Src.keeps {W W' : World} {F : Nat → Prop} {r D : Nat} {A : Option Addr} {l : List UInt8} (h : Src W r D A l) (hk : Keeps F W W') (hF : ∀ i, i < D → i ≠ r → ¬ F i) : Src W' r D A l := by
  rcases h with h | ⟨a, h1, h2, h3, h4⟩
  · exact .inl h
  · exact .inr ⟨a, h1, h2, h3, h4.keeps hk (fun _ => hF _ h3 h2)⟩
theorem RdSt.keeps {W W' : World} {F : Nat → Prop} {r D : Nat} {s : St} (h : RdSt W r D s) (hk : Keeps F W W') (hF : ∀ i, i < D → ¬ F i) : RdSt W' r D s := by
  obtain ⟨A, c, h0, h1, h2, h3⟩ := h
  exact ⟨A, c, h0, h1.keeps hk (hF r h0), h2, h3.keeps hk (fun i hi _ => hF i hi)⟩
theorem RdSt.ext {W W' : World} {r D : Nat} {s : St} (h : RdSt W r D s) (hx : Ext W W') : RdSt W' r D s := h.keeps (F := fun _ => False) (Keeps.of_ext hx) (fun _ _ hf => hf)
theorem RdSt.lt {W : World} {r D : Nat} {s : St} (h : RdSt W r D s) : r < D ∧ r < W.heap.size := by
  obtain ⟨A, c, h0, h1, _⟩ := h
  exact ⟨h0, h1.lt⟩
theorem RdSt.bad {W : World} {r D : Nat} {s : St} (h : RdSt W r D s) : W.cell? ⟨r, 1, none⟩ = some (.bool s.2) ∧ W.frozen? ⟨r, 1, none⟩ = false := by
  obtain ⟨A, c, _, h1, _⟩ := h
  exact ⟨h1.cell 1, h1.frozen 1⟩
theorem RdSt.set {W : World} {r D : Nat} {s : St} (h : RdSt W r D s) (b : Bool) : RdSt (W.setCell ⟨r, 1, none⟩ (.bool b)) r D (s.1, b) ∧ Keeps (· = r) W (W.setCell ⟨r, 1, none⟩ (.bool b)) := by
  obtain ⟨A, c, h0, h1, h2, h3⟩ := h
  have hk : Keeps (· = r) W (W.setCell ⟨r, 1, none⟩ (.bool b)) := (Keeps.refl (· = r) W).setCell (p := ⟨r, 1, none⟩) (.inr rfl) _
  exact ⟨⟨A, c, h0, h1.set 1 _, h2, h3.keeps hk (fun _ _ h => h)⟩, hk⟩

/-- What a call on the reader answers: a value, the reader behind it. -/
def RetR (W : World) (r D : Nat) (v : Value) (s : St) (e : Ending) (w' : World) : Prop := e = .returned v ∧ RdSt w' r D s ∧ Keeps (· = r) W w'

set_option maxRecDepth 100000 in
set_option maxHeartbeats 4000000 in
theorem take_any (W : World) (r D : Nat) (s : St) (h : RdSt W r D s) : Calls Tryd.prog 84 #[.pointer (some ⟨r, 0, none⟩)] W (RetR W r D (.int .u8 (tk s).1.toNat) (tk s).2) := by
  obtain ⟨l, b⟩ := s
  cases l with
  | nil =>
    obtain ⟨hR, hk⟩ := h.set true
    obtain ⟨A, c, h0, h1, h2, h3⟩ := h
    have HR := Lib.hid hR
    have c0 : W.cell? ⟨r, 0, none⟩ = some (.slice A 0 c) := h1.cell 0
    have c1 : W.cell? ⟨r, 1, none⟩ = some (.bool b) := h1.cell 1
    have f1 := h1.frozen 1
    clear hR h2 h3 h1 h0
    go_enter Tryd.func84, Tryd.ntmps84
    go_wp2
    go_ret
    exact ⟨rfl, HR.out, hk⟩
  | cons x l =>
    obtain ⟨A, c, h0, h1, h2, h3⟩ := h
    rcases h3 with h3 | ⟨a, rfl, h4, h6, h5⟩
    · cases h3
    · have c0 : W.cell? ⟨r, 0, none⟩ = some (.slice (some a) (l.length + 1) c) := h1.cell 0
      have f0 := h1.frozen 0
      have ca : W.cell? a = some (.int .u8 x.toNat) := by
        have := h5 0 (by simp)
        rwa [show a.add 0 = a by unfold Addr.add; simp] at this
      have hs : (Instr.slice 43 (.slice (some a) (l.length + 1) c) (some (.int .i64 1)) none none).run Tryd.prog W = .ok (.slice (some (tlA a c 1)) l.length (c - 1)) W := slice_from W a (l.length + 1) c 1 (by omega)
      have hk : Keeps (· = r) W (W.setCell ⟨r, 0, none⟩ (.slice (some (tlA a c 1)) l.length (c - 1))) := (Keeps.refl (· = r) W).setCell (p := ⟨r, 0, none⟩) (.inr rfl) _
      have HR := Lib.hid (show RdSt (W.setCell ⟨r, 0, none⟩ (.slice (some (tlA a c 1)) l.length (c - 1))) r D (l, b) from
        ⟨some (tlA a c 1), c - 1, h0, h1.set 0 _, by simp only [List.length_cons] at h2; show l.length ≤ c - 1; omega, Src.keeps (.inr ⟨tlA a c 1, rfl, by rw [tlA_block]; exact h4, by rw [tlA_block]; exact h6, RdA.tail (p := []) h5 h2⟩) hk (fun _ _ h => h)⟩)
      have hl : ((l.length : Int) + 1 == 0) = false := by rw [beq_eq_false_iff_ne]; omega
      have HK := Lib.hid hk
      clear h1 h2 h4 h5 hk h0 h6
      go_enter Tryd.func84, Tryd.ntmps84
      go_wp2
      go_ret
      exact ⟨rfl, HR.out, HK.out⟩

theorem u8_and127 (c : Nat) (h : c < 256) : bits .and .u8 (c : Int) 127 = ((c % 128 : Nat) : Int) := by
  have := u8_and_nat c 127 h (by decide)
  rw [show (127 : Int) = ((127 : Nat) : Int) from rfl, this, show (127 : Nat) = 2 ^ 7 - 1 from rfl, Nat.and_two_pow_sub_one_eq_mod]
theorem i64_orJoin (c d : Nat) (h : c < 128) (hd : d < 256) : bits .or .i64 (c : Int) ((128 * d : Nat) : Int) = ((c + 128 * d : Nat) : Int) := by
  have hc : bits .or .i64 (c : Int) ((128 * d : Nat) : Int) = bits .or .i64 ((128 * d : Nat) : Int) (c : Int) := by simp only [bits, BitVec.or_comm]
  rw [hc, bits_join .i64 63 (by decide) (fun n h0 h1 => by rw [IntKind.wrap_i64]; omega) 7 ((128 * d : Nat) : Int) (c : Int) (by omega) (by omega) (by omega) (by omega) (by omega) (by omega)]
  omega

set_option maxRecDepth 100000 in
set_option maxHeartbeats 4000000 in
theorem rnumber_any (W : World) (r D : Nat) (s : St) (h : RdSt W r D s) : Calls Tryd.prog 85 #[.pointer (some ⟨r, 0, none⟩)] W (RetR W r D (.int .i64 (numP s).1) (numP s).2) := by
  have H1 := Lib.hid (take_any W r D s h)
  have hc := (tk s).1.toNat_lt
  by_cases h1 : (tk s).1.toNat < 128
  · have HN := Lib.hid (show numP s = ((tk s).1.toNat, (tk s).2) by unfold numP; rw [if_pos h1])
    rw [HN.out]
    generalize (tk s).2 = s1 at *
    generalize (tk s).1.toNat = c at *
    have d1 : (c : Int) < 128 := by omega
    clear h HN
    go_enter Tryd.func85, Tryd.ntmps85
    go_wp2_with (go_at_call 84; refine H1.out.mono ?_; rintro e w1 ⟨rfl, hR1, hk1⟩)
    go_ret
    exact ⟨rfl, hR1, hk1⟩
  · have HN := Lib.hid (show numP s = ((tk s).1.toNat % 128 + 128 * (tk (tk s).2).1.toNat, ((tk (tk s).2).2.1, (tk (tk s).2).2.2 || decide ((tk (tk s).2).1.toNat = 0 ∨ 127 < (tk (tk s).2).1.toNat))) by unfold numP; rw [if_neg h1])
    rw [HN.out]
    have H2 := Lib.hid (fun W' (h' : RdSt W' r D (tk s).2) => take_any W' r D (tk s).2 h')
    have hd := (tk (tk s).2).1.toNat_lt
    generalize (tk (tk s).2).2 = s2 at *
    generalize (tk (tk s).2).1.toNat = d at *
    generalize (tk s).2 = s1 at *
    generalize (tk s).1.toNat = c at *
    have d1 : ¬ (c : Int) < 128 := by omega
    have q1 := u8_and127 c (by omega)
    have q2 : bits .or .i64 ((c : Int) % 128) ((d : Int) * 128) = ((c % 128 + 128 * d : Nat) : Int) := by
      rw [show (c : Int) % 128 = ((c % 128 : Nat) : Int) by omega, show (d : Int) * 128 = ((128 * d : Nat) : Int) by omega]
      exact i64_orJoin (c % 128) d (Nat.mod_lt _ (by decide)) (by omega)
    have HDD := Lib.hid hd
    clear h HN
    dsimp only at *
    by_cases h2 : d = 0 ∨ 127 < d
    · have e1 : decide (d = 0 ∨ 127 < d) = true := by simpa using h2
      rw [e1, Bool.or_true]
      clear e1
      have hcs : ((d : Int) == 0) = true ∨ (((d : Int) == 0) = false ∧ (127 : Int) < d) := by
        rcases h2 with h2 | h2
        · exact .inl (by simp [h2])
        · exact .inr ⟨by rw [beq_eq_false_iff_ne]; omega, by omega⟩
      clear h2
      rcases hcs with n1 | ⟨n1, n2⟩
      all_goals
        go_enter Tryd.func85, Tryd.ntmps85
        go_wp2_with (first
          | (go_at_call 84; refine H1.out.mono ?_; rintro e w1 ⟨rfl, hR1, hk1⟩)
          | (go_at_call 84; refine (H2.out _ hR1).mono ?_; rintro e w2 ⟨rfl, hR2, hk2⟩; obtain ⟨cb, fb⟩ := hR2.bad))
        have hS := hR2.set true
        have HS := Lib.hid hS
        have hkk := (hk1.trans hk2 (fun _ _ h => h)).trans hS.2 (fun _ _ h => h)
        go_ret
        exact ⟨rfl, HS.out.1, hkk⟩
    · have e1 : decide (d = 0 ∨ 127 < d) = false := by simpa using h2
      rw [e1, Bool.or_false]
      clear e1
      have n1 : ((d : Int) == 0) = false := by rw [beq_eq_false_iff_ne]; omega
      have n2 : ¬ (127 : Int) < d := by omega
      clear h2
      go_enter Tryd.func85, Tryd.ntmps85
      go_wp2_with (first
        | (go_at_call 84; refine H1.out.mono ?_; rintro e w1 ⟨rfl, hR1, hk1⟩)
        | (go_at_call 84; refine (H2.out _ hR1).mono ?_; rintro e w2 ⟨rfl, hR2, hk2⟩))
      go_ret
      exact ⟨rfl, hR2, hk1.trans hk2 (fun _ _ h => h)⟩

end Go.Proofs.YthddlhpndaffjaaDoor

namespace Go.Proofs.YthddlhpndaffjaaDoor
open Go Go.RowKit

theorem takes_len : ∀ (k : Nat) (s : St), (takesP k s).1.length = k
  | 0, _ => rfl
  | k + 1, s => by rw [takesP, List.length_append, takes_len k s]; rfl
theorem takes_none (s : St) : byteSet (takesP (8 * 0) s).1 = noS := by
  funext b
  simp [takesP, byteSet, noS]
theorem nodeA_wd (h : Hd) (sv : Value) (i : Nat) (hi : i < 4) : (nodeA h sv)[1 + i]? = some (.int .u64 (wd h.set i : Int)) := by
  rcases (show i = 0 ∨ i = 1 ∨ i = 2 ∨ i = 3 from by omega) with rfl | rfl | rfl | rfl <;> rfl
theorem nodeA_put (h : Hd) (sv : Value) (q : Nat → Bool) (i x : Nat) (hi : i < 4) (hx : x = wd q i) (hne : ∀ j, j ≠ i → wd q j = wd h.set j) :
    (nodeA h sv).setIfInBounds (1 + i) (.int .u64 (x : Int)) = nodeA { h with set := q } sv := by
  subst hx
  rcases (show i = 0 ∨ i = 1 ∨ i = 2 ∨ i = 3 from by omega) with rfl | rfl | rfl | rfl
  · simp [nodeA, nodeC, hne 1 (by omega), hne 2 (by omega), hne 3 (by omega)]
  · simp [nodeA, nodeC, hne 0 (by omega), hne 2 (by omega), hne 3 (by omega)]
  · simp [nodeA, nodeC, hne 0 (by omega), hne 1 (by omega), hne 3 (by omega)]
  · simp [nodeA, nodeC, hne 0 (by omega), hne 1 (by omega), hne 2 (by omega)]

theorem or_shl (w c j : Nat) (hw : w < 18446744073709551616) (hc : c < 256) (hj : j < 8) :
    bits .or .u64 (w : Int) (IntKind.u64.wrap (IntKind.u64.wrap (c : Int) * 2 ^ (8 * (j : Int)).toNat)) = ((w ||| (c <<< (8 * j)) : Nat) : Int) := by
  have h1 : IntKind.u64.wrap (c : Int) = (c : Int) := by rw [IntKind.wrap_u64]; omega
  have h2 : (8 * (j : Int)).toNat = 8 * j := by omega
  have h3 : c * 2 ^ (8 * j) < 18446744073709551616 := by
    calc c * 2 ^ (8 * j) < 2 ^ 8 * 2 ^ (8 * j) := Nat.mul_lt_mul_of_pos_right hc (Nat.two_pow_pos _)
      _ = 2 ^ (8 + 8 * j) := (Nat.pow_add _ _ _).symm
      _ ≤ 2 ^ 64 := Nat.pow_le_pow_right (by decide) (by omega)
  have h4 : (c : Int) * 2 ^ (8 * j) = ((c * 2 ^ (8 * j) : Nat) : Int) := by push_cast; rfl
  rw [h1, h2, h4, Nat.shiftLeft_eq, ← u64_or_nat _ _ hw h3, IntKind.wrap_u64]
  congr 1
  generalize c * 2 ^ (8 * j) = y at *
  omega

/-- The world of w's first n blocks. -/
def cutW (w : World) (n : Nat) : World := { w with heap := w.heap.extract 0 n }
theorem cutW_size {w : World} {n : Nat} (h : n ≤ w.heap.size) : (cutW w n).heap.size = n := by simp [cutW]; omega
theorem cutW_block {w : World} {n k : Nat} (hk : k < n) (h : n ≤ w.heap.size) : (cutW w n).heap[k]? = w.heap[k]? := by
  simp only [cutW, Array.getElem?_extract]
  rw [if_pos (by omega), Nat.zero_add]
theorem cutW_ext {w : World} {n : Nat} (h : n ≤ w.heap.size) : Ext (cutW w n) w := ⟨rfl, rfl, rfl, by rw [cutW_size h]; exact h, fun k hk => by rw [cutW_size h] at hk; exact (cutW_block hk h).symm⟩
theorem cutW_keeps {F : Nat → Prop} {w w' : World} (hk : Keeps F w w') : Keeps F w (cutW w' w.heap.size) := ⟨hk.os, hk.tape, hk.output, by rw [cutW_size hk.size]; exact Nat.le_refl _, fun k hl hf => (cutW_block hl hk.size).trans (hk.block k hl hf)⟩
theorem LstZ.keep1 {W W' : World} {B g : Nat} {e : TypeId} {v : Value} {l : List Kid} {zs : List (List Value)} (h : LstZ W B e v l zs) (hk : Keeps (· = g) W W') (hg : g < B) : LstZ W' B e v l zs :=
  ⟨h.own.keeps hk (fun i hi e => by have := (h.own.own i hi).1; omega), fun x hm => (h.kid x hm).keep (fun b hb => by
      have := h.lt b (List.mem_flatMap.2 ⟨x, hm, hb⟩)
      exact sameAt_of_block (hk.block b this.2.1 (fun e => by omega))), h.nodup, fun b hb => ⟨(h.lt b hb).1, Nat.lt_of_lt_of_le (h.lt b hb).2.1 hk.size, (h.lt b hb).2.2⟩⟩

/-- What the reader's node answers. -/
def RetRN (W : World) (r D : Nat) (n : Nd) (s : St) (e : Ending) (w' : World) : Prop := ∃ sv, e = .returned (nodeV n.h sv) ∧ NdNew W.heap.size w' n sv ∧ RdSt w' r D s ∧ Keeps (· = r) W w'

theorem byteSet_app (l : List UInt8) (c : UInt8) (b : Nat) : byteSet (l ++ [c]) b = (byteSet l b || (decide (b / 8 = l.length) && c.toNat.testBit (b % 8))) := by
  unfold byteSet
  rcases Nat.lt_trichotomy (b / 8) l.length with h | h | h
  · rw [List.getD_eq_getElem?_getD, List.getElem?_append_left h, ← List.getD_eq_getElem?_getD, decide_eq_false (by omega)]
    simp
  · rw [List.getD_eq_getElem?_getD, List.getElem?_append_right (by omega), h, Nat.sub_self]
    simp
  · rw [List.getD_eq_getElem?_getD, List.getElem?_eq_none (by simp; omega), List.getD_eq_getElem?_getD, List.getElem?_eq_none (by omega), decide_eq_false (by omega)]
    simp
theorem wd_byte (l : List UInt8) (c : UInt8) (i j : Nat) (hj : j < 8) (hl : l.length = 8 * i + j) : wd (byteSet (l ++ [c])) i = wd (byteSet l) i ||| (c.toNat <<< (8 * j)) := by
  have hc := c.toNat_lt
  symm
  refine wd_of (Nat.or_lt_two_pow (n := 64) (wd_lt _ _) ?_) fun k hk => ?_
  · rw [Nat.shiftLeft_eq]
    calc c.toNat * 2 ^ (8 * j) < 2 ^ 8 * 2 ^ (8 * j) := Nat.mul_lt_mul_of_pos_right hc (Nat.two_pow_pos _)
      _ = 2 ^ (8 + 8 * j) := (Nat.pow_add _ _ _).symm
      _ ≤ 2 ^ 64 := Nat.pow_le_pow_right (by decide) (by omega)
  · rw [Nat.testBit_or, wd_bit _ _ _ hk, byteSet_app, Nat.testBit_shiftLeft, hl]
    congr 1
    by_cases h1 : 8 * j ≤ k
    · by_cases h2 : k < 8 * j + 8
      · rw [decide_eq_true h1, decide_eq_true (show (64 * i + k) / 8 = 8 * i + j by omega), show (64 * i + k) % 8 = k - 8 * j by omega]
      · rw [decide_eq_true h1, decide_eq_false (show ¬ (64 * i + k) / 8 = 8 * i + j by omega), Nat.testBit_lt_two_pow (Nat.lt_of_lt_of_le hc (Nat.pow_le_pow_right (by decide) (by omega)))]
        rfl
    · rw [decide_eq_false h1, decide_eq_false (show ¬ (64 * i + k) / 8 = 8 * i + j by omega)]
      rfl
theorem wd_byte_ne (l : List UInt8) (c : UInt8) (i i' j : Nat) (hj : j < 8) (hl : l.length = 8 * i + j) (hne : i' ≠ i) : wd (byteSet (l ++ [c])) i' = wd (byteSet l) i' := by
  refine wd_congr fun k hk => ?_
  rw [byteSet_app, decide_eq_false (show ¬ (64 * i' + k) / 8 = l.length by omega)]
  simp

theorem nodeA_num (h : Hd) (sv : Value) (n : Int) : (nodeA h sv).setIfInBounds 6 (.int .i64 n) = nodeA { h with num := n } sv := rfl
theorem nodeA_min (h : Hd) (sv : Value) (n : Int) : (nodeA h sv).setIfInBounds 7 (.int .i64 n) = nodeA { h with min := n } sv := rfl
theorem nodeA_max (h : Hd) (sv : Value) (n : Int) : (nodeA h sv).setIfInBounds 8 (.int .i64 n) = nodeA { h with max := n } sv := rfl
theorem nodeA_bare (h : Hd) (sv : Value) (b : Bool) : (nodeA h sv).setIfInBounds 9 (.bool b) = nodeA { h with bare := b } sv := rfl
theorem Keeps.or1 {w w' : World} {r p : Nat} (h : Keeps (· = r) w w') : Keeps (fun i => i = r ∨ i = p) w w' := h.mono fun _ _ e => .inl e
theorem Keeps.or2 {w w' : World} {r p : Nat} (h : Keeps (· = p) w w') : Keeps (fun i => i = r ∨ i = p) w w' := h.mono fun _ _ e => .inr e
theorem Keeps.set1 (w : World) (p i : Nat) (v : Value) : Keeps (· = p) w (w.setCell ⟨p, i, none⟩ v) := (Keeps.refl (· = p) w).setCell (p := ⟨p, i, none⟩) (.inr rfl) v
theorem numP_lt (s : St) : (numP s).1 < 32896 := by
  have h1 := (tk s).1.toNat_lt
  have h2 := (tk (tk s).2).1.toNat_lt
  unfold numP
  split
  · dsimp only; omega
  · dsimp only; omega
theorem headOf_lt (s : St) : (headOf s).m < 32896 := by
  have h := numP_lt (tk s).2
  unfold headOf headP
  split
  · dsimp only; omega
  split
  · exact h
  split
  · dsimp only; omega
  split
  · dsimp only; omega
  · dsimp only; omega
theorem beq_one (c : UInt8) : ((c.toNat : Int) == 1) = (c == 1) := by
  by_cases h : c = 1
  · subst h; rfl
  · have : c.toNat ≠ 1 := fun e => h (UInt8.toNat.inj e)
    rw [beq_eq_false_iff_ne.2 h, beq_eq_false_iff_ne]
    omega
theorem RdSt.other {W W' : World} {r D p : Nat} {s : St} (h : RdSt W r D s) (hk : Keeps (· = p) W W') (hp : D ≤ p) : RdSt W' r D s := h.keeps hk (fun i hi e => by omega)

theorem word_put {w5 : World} {p : Nat} {t : TypeId} {h : Hd} {sv : Value} {cl : List UInt8} {cb : UInt8} {i j : Nat} (hi : i < 4) (hj : j < 8) (hp : Blk w5 p t (nodeA { h with set := byteSet cl } sv)) (hl : cl.length = 8 * i + j) (V : Value)
    (hV : V = .int .u64 (bits .or .u64 (wd (byteSet cl) i : Int) (IntKind.u64.wrap (IntKind.u64.wrap (cb.toNat : Int) * 2 ^ (8 * (j : Int)).toNat)))) : Blk (w5.setCell ⟨p, 1 + i, none⟩ V) p t (nodeA { h with set := byteSet (cl ++ [cb]) } sv) := by
  have hc := cb.toNat_lt
  have hV2 : V = .int .u64 ((wd (byteSet (cl ++ [cb])) i : Nat) : Int) := by
    rw [hV, or_shl _ _ _ (wd_lt _ _) (by omega) hj, wd_byte cl cb i j hj hl]
  clear hV
  subst hV2
  have h8 : ∀ i', i' ≠ i → wd (byteSet (cl ++ [cb])) i' = wd ({ h with set := byteSet cl } : Hd).set i' := fun i' hne => wd_byte_ne cl cb i i' j hj hl hne
  have h7 : (nodeA { h with set := byteSet cl } sv).setIfInBounds (1 + i) (.int .u64 ((wd (byteSet (cl ++ [cb])) i : Nat) : Int)) = nodeA { h with set := byteSet (cl ++ [cb]) } sv := nodeA_put { h with set := byteSet cl } sv (byteSet (cl ++ [cb])) i (wd (byteSet (cl ++ [cb])) i) hi rfl h8
  have h9 := hp.set (1 + i) (.int .u64 ((wd (byteSet (cl ++ [cb])) i : Nat) : Int))
  rw [h7] at h9
  exact h9

set_option maxRecDepth 100000 in
set_option maxHeartbeats 8000000 in
theorem rnode_any : ∀ (f : Nat) (lv : Int) (W : World) (r D : Nat) (s : St), Hid (lv = 201 - (f : Int)) → f ≤ 200 → D ≤ W.heap.size → RdSt W r D s →
    Calls Tryd.prog 61 #[.pointer (some ⟨r, 0, none⟩), .int .i64 lv] W (RetRN W r D (nodeP f s).1 (nodeP f s).2) := by
  intro f
  induction f using Nat.strongRecOn with
  | _ f ih =>
    intro lv W r D s HLV hf hD hR
    have IH := Lib.hid ih
    have HH0 := Lib.hid (show f = 0 → nodeP f s = (.mk (headOf s).h [], ((headOf s).s.1, true)) from fun e => by subst e; rfl)
    have HH1 := Lib.hid (show ∀ g, f = g + 1 → nodeP f s = (.mk (headOf s).h (loopP (nodeP g) (headOf s).m (headOf s).s).1, (loopP (nodeP g) (headOf s).m (headOf s).s).2) from fun g e => by subst e; rfl)
    have HT := Lib.hid (fun W' (h' : RdSt W' r D s) => take_any W' r D s h')
    have hR0 := hR
    have HO := Lib.hid (show headOf s = headP (tk s).1.toNat (tk s).2 from rfl)
    have hk256 := (tk s).1.toNat_lt
    have hm := headOf_lt s
    generalize headOf s = ho at *
    generalize nodeP f s = res at *
    generalize (tk s).1.toNat = kk at *
    generalize (tk s).2 = s0 at *
    have hlt := hR.lt
    clear ih hR
    have q0 : (kk : Int) % 256 = (kk : Int) := by omega
    go_enter Tryd.func61, Tryd.ntmps61
    go_upto_region 1 with (refine wpl_allocNd rfl rfl ?_; intro z w1 hz hx1 ez sz)
    go_upto_region 2 with (first
      | (go_at_call 84; refine (HT.out _ (hR0.ext hx1)).mono ?_; rintro e w2 ⟨rfl, hR2, hk2⟩)
      | (refine wpl_allocNd rfl rfl ?_; intro p w3 hp hx3 ep sp)
      | (refine wpl_storeLit rfl _ _ rfl rfl p _ (kk : Int) 0 0 0 false (.slice none 0 0) _ rfl rfl (isSl_mk _ _ _) hp ?_; intro w4 hp4 hk4))
    have hx34 := hx3.keep1 hk4 ep
    have hR4 := hR2.ext hx34
    have s1 := hx1.size
    have s2 := hk2.size
    have s4 := hx34.size
    have hz4 := (hz.keeps hk2 (by omega)).ext hx34
    have hkW : Keeps (· = r) W w4 := ((Keeps.of_ext hx1).trans hk2 (fun _ _ h => h)).ext' hx34
    have hwp : W.heap.size ≤ p := by omega
    have hzp : z < p := by omega
    have hwz : W.heap.size ≤ z := ez
    have sp4 := hp4.lt
    have hDp : D ≤ p := by omega
    have hrp : p ≠ r := by omega
    clear hz hx1 hx3 hk4 hp hR2 hk2 hx34 hR0 HT ez ep sz sp q0
    try simp only [Act.put, List.setIfInBounds_toArray, List.set_cons_succ, List.set_cons_zero]
    go_cut [6] (fun v wx => v = .int .i64 0 ∧ w4 = wx)
    case first =>
      go_wp2
      go_meet
      case rel => exact ⟨rfl, rfl⟩
    obtain ⟨rfl, rfl⟩ := hcut
    go_step
    go_step
    go_cut [6] (fun v wx => v = .int .i64 ho.m ∧ RdSt wx r D ho.s ∧ Blk wx p 27 (nodeA ho.h (.slice none 0 0)) ∧ Keeps (fun i => i = r ∨ i = p) w4 wx)
    case first =>
      clear IH HH0 HH1
      have c0 : w4.cell? ⟨p, 0, none⟩ = some (.int .i64 kk) := hp4.cell 0
      by_cases h2 : kk = 2
      · subst h2
        have HO2 := Lib.hid (show ho = ⟨⟨2, byteSet (takesP 32 s0).1, 0, 0, 0, false⟩, 0, (takesP 32 s0).2⟩ by rw [HO.out, headP, if_pos rfl])
        have hR0 : RdSt w4 r D (takesP (8 * 0) s0).2 := hR4
        have hp0 : Blk w4 p 27 (nodeA ⟨2, byteSet (takesP (8 * 0) s0).1, 0, 0, 0, false⟩ (.slice none 0 0)) := by rw [takes_none]; exact hp4
        have hk0 : Keeps (fun i => i = r ∨ i = p) w4 w4 := Keeps.refl _ _
        clear HO hR4 hz4 hkW
        go_wp2
        go_loopw [19] (fun t wr => ∃ i : Nat, i ≤ 4 ∧ t = .int .i64 i ∧ RdSt wr r D (takesP (8 * i) s0).2 ∧ Blk wr p 27 (nodeA ⟨2, byteSet (takesP (8 * i) s0).1, 0, 0, 0, false⟩ (.slice none 0 0)) ∧ Keeps (fun i => i = r ∨ i = p) w4 wr) (fun t _ => 4 - (intOf t).toNat)
        case atStart => exact ⟨0, by omega, rfl, hR0, hp0, hk0⟩
        case round =>
          clear hR0 hp0 hk0 hp4 c0
          obtain ⟨i, hi, rfl, hRi, hpi, hki⟩ := hrel
          by_cases hi4 : i < 4
          · have d1 : (i : Int) < 4 := by omega
            have hRi0 : RdSt wr r D (takesP (8 * i + 0) s0).2 := hRi
            have hpi0 : Blk wr p 27 (nodeA ⟨2, byteSet (takesP (8 * i + 0) s0).1, 0, 0, 0, false⟩ (.slice none 0 0)) := hpi
            clear hRi hpi
            go_wp2
            go_loopw [8] (fun t wq => ∃ j : Nat, j ≤ 8 ∧ t = .int .i64 ((8 * j : Nat) : Int) ∧ RdSt wq r D (takesP (8 * i + j) s0).2 ∧ Blk wq p 27 (nodeA ⟨2, byteSet (takesP (8 * i + j) s0).1, 0, 0, 0, false⟩ (.slice none 0 0)) ∧ Keeps (fun i => i = r ∨ i = p) w4 wq) (fun t _ => 64 - (intOf t).toNat)
            case atStart => exact ⟨0, by omega, rfl, hRi0, hpi0, hki⟩
            case round =>
              clear hRi0 hpi0 hki
              obtain ⟨j, hj, rfl, hRj, hpj, hkj⟩ := hrel
              have hlen := takes_len (8 * i + j) s0
              by_cases hj8 : j < 8
              · have d2 : ((8 * j : Nat) : Int) < 64 := by omega
                have HB := Lib.hid (show takesP (8 * i + (j + 1)) s0 = ((takesP (8 * i + j) s0).1 ++ [(tk (takesP (8 * i + j) s0).2).1], (tk (takesP (8 * i + j) s0).2).2) from rfl)
                have HT := Lib.hid (fun W' (h' : RdSt W' r D (takesP (8 * i + j) s0).2) => take_any W' r D _ h')
                have hc := (tk (takesP (8 * i + j) s0).2).1.toNat_lt
                generalize HNXE : takesP (8 * i + (j + 1)) s0 = nx at *
                generalize takesP (8 * i + j) s0 = cu at *
                obtain ⟨cl, cs⟩ := cu
                dsimp only at *
                generalize (tk cs).1 = cb at *
                generalize (tk cs).2 = cs' at *
                have HNX := Lib.hid HB.out
                have hci : ∀ W', Keeps (· = r) wr W' → W'.cell? ⟨p, 1 + i, none⟩ = some (.int .u64 (wd (byteSet cl) i : Int)) ∧ W'.frozen? ⟨p, 1 + i, none⟩ = false := fun W' hW => by
                  have h := hpj.keeps hW hrp
                  refine ⟨?_, h.frozen (1 + i)⟩
                  rw [h.cell (1 + i)]
                  exact nodeA_wd _ _ i hi4
                clear HB
                go_upto_region 11 with fail
                have hq := hci wr.drew (Keeps.refl (· = r) wr).drew
                have hRd : RdSt wr.drew r D cs := hRj.keeps (Keeps.refl (fun _ => False) wr).drew (fun _ _ h => h)
                obtain ⟨hq1, hq2⟩ := hq
                have HFIN := Lib.hid (by exact (fun w5 hR5 hk5 V hV => ⟨by rw [HNX.out]; exact hR5.other (Keeps.set1 w5 p (1 + i) V) hDp, by rw [HNX.out]; exact word_put (h := ⟨2, noS, 0, 0, 0, false⟩) hi4 hj8 (hpj.keeps hk5 hrp) hlen V hV, (hkj.trans hk5 (fun _ _ e => .inl e)).trans (Keeps.set1 w5 p (1 + i) V) (fun _ _ e => .inr e)⟩ :
                  ∀ w5, RdSt w5 r D cs' → Keeps (· = r) wr w5 → ∀ V, V = .int .u64 (bits .or .u64 (wd (byteSet cl) i : Int) (IntKind.u64.wrap (IntKind.u64.wrap (cb.toNat : Int) * 2 ^ (8 * (j : Int)).toNat))) → RdSt (w5.setCell ⟨p, 1 + i, none⟩ V) r D nx.2 ∧
                    Blk (w5.setCell ⟨p, 1 + i, none⟩ V) p 27 (nodeA ⟨2, byteSet nx.1, 0, 0, 0, false⟩ (.slice none 0 0)) ∧ Keeps (fun i => i = r ∨ i = p) w4 (w5.setCell ⟨p, 1 + i, none⟩ V)))
                have HNEXT := Lib.hid (by exact (HNXE : takesP (8 * i + (j + 1)) s0 = nx))
                clear hlen hc HNX hpj hkj
                go_region_with (go_at_call 84; refine (HT.out _ hRd).mono ?_; rintro e w5 ⟨rfl, hR5, hk5⟩; obtain ⟨hs1, hs2⟩ := hci w5 ⟨hk5.os, hk5.tape, hk5.output, hk5.size, hk5.block⟩)
                all_goals
                  obtain ⟨x1, x2, x3⟩ := HFIN.out w5 hR5 ⟨hk5.os, hk5.tape, hk5.output, hk5.size, hk5.block⟩ _ rfl
                  clear HFIN
                  generalize IntKind.u64.wrap (IntKind.u64.wrap (cb.toNat : Int) * 2 ^ (8 * (j : Int)).toNat) = y at *
                  generalize bits .or .u64 (wd (byteSet cl) i : Int) y = y2 at *
                  generalize w5.setCell ⟨p, 1 + i, none⟩ (.int .u64 y2) = w9 at *
                  clear hci hs1 hs2 hq1 hq2 hR5 hk5 hRd hRj
                  go_wp2
                  go_roundw
                  case rel => exact ⟨j + 1, by omega, by go_num, by rw [HNEXT.out]; exact x1, by rw [HNEXT.out]; exact x2, x3⟩
                  case measure => simp [intOf]; omega
              · have e8 : 8 * i + j = 8 * (i + 1) := by omega
                have d2 : ¬ ((8 * j : Nat) : Int) < 64 := by omega
                rw [e8] at hRj hpj
                clear hlen
                go_wp2
                go_roundw
                case rel => exact ⟨i + 1, by omega, by go_num, hRj, hpj, hkj⟩
                case measure => simp [intOf]; omega
          · have e4 : i = 4 := by omega
            subst e4
            rw [show 8 * 4 = 32 from rfl] at hRi hpi
            generalize takesP 32 s0 = tt at *
            clear hi4
            go_wp2
            go_meet
            case rel => exact ⟨by rw [HO2.out]; rfl, by rw [HO2.out]; exact hRi, by rw [HO2.out]; exact hpi, hki⟩
      by_cases h5 : kk = 5 ∨ kk = 6
      · have HO2 := Lib.hid (show ho = ⟨hdV kk, (numP s0).1, (numP s0).2⟩ by rw [HO.out, headP, if_neg h2, if_pos h5])
        rcases h5 with rfl | rfl
        all_goals
          go_wp2_with (go_at_call 85; refine (rnumber_any _ r D s0 hR4).mono ?_; rintro e w5 ⟨rfl, hR5, hk5⟩)
          go_meet
          case rel => exact ⟨by rw [HO2.out], by rw [HO2.out]; exact hR5, by rw [HO2.out]; exact hp4.keeps hk5 hrp, hk5.or1⟩
      by_cases h7 : kk = 7
      · subst h7
        have HO2 := Lib.hid (show ho = ⟨⟨7, noS, (numP s0).1, 0, 0, false⟩, 1, (numP s0).2⟩ by rw [HO.out, headP, if_neg (by decide), if_neg (by decide), if_pos rfl])
        go_wp2_with (go_at_call 85; refine (rnumber_any _ r D s0 hR4).mono ?_; rintro e w5 ⟨rfl, hR5, hk5⟩; have hp5 := hp4.keeps hk5 hrp; have c6 := hp5.cell 6; have f6 := hp5.frozen 6; replace c6 : w5.cell? ⟨p, 6, none⟩ = some (.int .i64 0) := c6)
        go_meet
        case rel => exact ⟨by rw [HO2.out]; rfl, by rw [HO2.out]; exact hR5.other (Keeps.set1 _ _ _ _) hDp, by rw [HO2.out]; exact hp5.set 6 _, (hk5.or1).trans (Keeps.set1 _ _ _ _) (fun _ _ e => .inr e)⟩
      by_cases h8 : kk = 8
      · subst h8
        have HO2 := Lib.hid (show ho = ⟨⟨8, noS, 0, (numP s0).1, (numP (numP s0).2).1 - 1, (tk (numP (numP s0).2).2).1 == 1⟩, 1, ((tk (numP (numP s0).2).2).2.1, (tk (numP (numP s0).2).2).2.2 || decide (1 < (tk (numP (numP s0).2).2).1.toNat))⟩ by rw [HO.out, headP, if_neg (by decide), if_neg (by decide), if_neg (by decide), if_pos rfl])
        have HN1 := Lib.hid (fun W' (h' : RdSt W' r D s0) => rnumber_any W' r D s0 h')
        have HN2 := Lib.hid (fun W' (h' : RdSt W' r D (numP s0).2) => rnumber_any W' r D (numP s0).2 h')
        have HN3 := Lib.hid (fun W' (h' : RdSt W' r D (numP (numP s0).2).2) => take_any W' r D (numP (numP s0).2).2 h')
        have hn2 := numP_lt (numP s0).2
        have hq9 := beq_one (tk (numP (numP s0).2).2).1
        generalize (tk (numP (numP s0).2).2).2 = s3 at *
        generalize (tk (numP (numP s0).2).2).1 = cb at *
        generalize (numP (numP s0).2).2 = s2 at *
        generalize (numP (numP s0).2).1 = m2 at *
        generalize (numP s0).2 = s1 at *
        generalize (numP s0).1 = m1 at *
        have HB9 := Lib.hid hq9
        clear h2 h5 h7 hq9
        go_upto_region 21 with (go_at_call 85; refine (HN1.out _ hR4).mono ?_; rintro e w5 ⟨rfl, hR5, hk5⟩; have hp5 := hp4.keeps hk5 hrp; have c7 : w5.cell? ⟨p, 7, none⟩ = some (.int .i64 0) := hp5.cell 7; have f7 := hp5.frozen 7)
        have hR6 := hR5.other (Keeps.set1 w5 p 7 (.int .i64 m1)) hDp
        have hp6 := hp5.set 7 (.int .i64 m1)
        have hk6 := (hk5.or1 (p := p)).trans (Keeps.set1 w5 p 7 (.int .i64 m1)) (fun _ _ e => .inr e)
        rw [nodeA_min] at hp6
        clear c7 f7 hR5 hp5 hk5 c0
        generalize w5.setCell ⟨p, 7, none⟩ (.int .i64 m1) = w6 at *
        go_upto_region 22 with (go_at_call 85; refine (HN2.out _ hR6).mono ?_; rintro e w7 ⟨rfl, hR7, hk7⟩; have hp7 := hp6.keeps hk7 hrp; have c8 : w7.cell? ⟨p, 8, none⟩ = some (.int .i64 0) := hp7.cell 8; have f8 := hp7.frozen 8)
        have hR8 := hR7.other (Keeps.set1 w7 p 8 (.int .i64 ((m2 : Int) - 1))) hDp
        have hp8 := hp7.set 8 (.int .i64 ((m2 : Int) - 1))
        have hk8 := (hk6.trans hk7 (fun _ _ e => .inl e)).trans (Keeps.set1 w7 p 8 (.int .i64 ((m2 : Int) - 1))) (fun _ _ e => .inr e)
        rw [nodeA_max] at hp8
        clear c8 f8 hR7 hp7 hk7 hR6 hp6 hk6
        generalize w7.setCell ⟨p, 8, none⟩ (.int .i64 ((m2 : Int) - 1)) = w8 at *
        go_upto_region 24 with (go_at_call 84; refine (HN3.out _ hR8).mono ?_; rintro e w9 ⟨rfl, hR9, hk9⟩; have hp9 := hp8.keeps hk9 hrp; have c9 : w9.cell? ⟨p, 9, none⟩ = some (.bool false) := hp9.cell 9; have f9 := hp9.frozen 9)
        have hR10 := hR9.other (Keeps.set1 w9 p 9 (.bool ((cb.toNat : Int) == 1))) hDp
        have hp10 := hp9.set 9 (.bool ((cb.toNat : Int) == 1))
        have hk10 := (hk8.trans hk9 (fun _ _ e => .inl e)).trans (Keeps.set1 w9 p 9 (.bool ((cb.toNat : Int) == 1))) (fun _ _ e => .inr e)
        rw [nodeA_bare] at hp10
        clear c9 f9 hR9 hp9 hk9 hR8 hp8 hk8
        generalize w9.setCell ⟨p, 9, none⟩ (.bool ((cb.toNat : Int) == 1)) = wa at *
        rw [HB9.out] at hp10
        obtain ⟨cbad, fbad⟩ := hR10.bad
        obtain ⟨hR11, hk11⟩ := hR10.set (s3.2 || decide (1 < cb.toNat))
        have HR11 := Lib.hid hR11
        have hp11 := hp10.keeps (F := (· = r)) hk11 hrp
        have HK11 := Lib.hid (hk10.trans hk11 (fun _ _ e => .inl e))
        clear hR11 hk11 hk10 hR10 hp10
        obtain ⟨s3l, s3b⟩ := s3
        dsimp only at *
        cases s3b
        · by_cases h1c : 1 < cb.toNat
          · have e1 : decide (1 < cb.toNat) = true := by simpa using h1c
            rw [e1] at HR11 HK11 hp11 HO2
            have d1 : (1 : Int) < (cb.toNat : Int) := by omega
            clear h1c e1
            go_wp2
            go_meet
            case rel => exact ⟨by rw [HO2.out]; rfl, by rw [HO2.out]; exact HR11.out, by rw [HO2.out]; exact hp11, HK11.out⟩
          · have e1 : decide (1 < cb.toNat) = false := by simpa using h1c
            rw [e1] at HR11 HK11 hp11 HO2
            have d1 : ¬ (1 : Int) < (cb.toNat : Int) := by omega
            clear h1c e1
            go_wp2
            go_meet
            case rel => exact ⟨by rw [HO2.out]; rfl, by rw [HO2.out]; exact HR11.out, by rw [HO2.out]; exact hp11, HK11.out⟩
        · rw [Bool.true_or] at HR11 HK11 hp11 HO2
          go_wp2
          go_meet
          case rel => exact ⟨by rw [HO2.out]; rfl, by rw [HO2.out]; exact HR11.out, by rw [HO2.out]; exact hp11, HK11.out⟩
      · have HO2 := Lib.hid (show ho = ⟨hdV kk, 0, s0⟩ by rw [HO.out, headP, if_neg h2, if_neg h5, if_neg h7, if_neg h8])
        have n2 : ((kk : Int) == 2) = false := by rw [beq_eq_false_iff_ne]; omega
        have n5 : ((kk : Int) == 5) = false := by rw [beq_eq_false_iff_ne]; omega
        have n6 : ((kk : Int) == 6) = false := by rw [beq_eq_false_iff_ne]; omega
        have n7 : ((kk : Int) == 7) = false := by rw [beq_eq_false_iff_ne]; omega
        have n8 : ((kk : Int) == 8) = false := by rw [beq_eq_false_iff_ne]; omega
        clear h2 h5 h7 h8
        go_wp2
        go_meet
        case rel => exact ⟨by rw [HO2.out]; rfl, by rw [HO2.out]; exact hR4, by rw [HO2.out]; exact hp4, Keeps.refl _ _⟩
    obtain ⟨rfl, hR5, hp5, hk5⟩ := hcut
    generalize wc = w5 at *
    have hz5 := hz4.keeps hk5 (fun e => by rcases e with e | e <;> omega)
    have hkW5 : Keeps (· = r) W w5 := hkW.trans hk5 (fun i hi e => by rcases e with e | e <;> omega)
    have s45 := hk5.size
    have hp5l := hp5.lt
    clear hR4 hz4 hp4 hkW hk5 HO hk256
    obtain ⟨hh, m, s1⟩ := ho
    dsimp only at *
    obtain ⟨G, s6, HR, HF, HIH⟩ : ∃ (G : St → Nd × St) (s6 : St), Hid (res = (.mk hh (loopP G m s6).1, (loopP G m s6).2)) ∧ Hid (s6 = (s1.1, decide (f = 0) || s1.2)) ∧ Hid (f ≠ 0 → ∀ W' s', D ≤ W'.heap.size → RdSt W' r D s' → Calls Tryd.prog 61 #[.pointer (some ⟨r, 0, none⟩), .int .i64 (lv + 1)] W' (RetRN W' r D (G s').1 (G s').2)) := by
      cases f with
      | zero => exact ⟨fun s => (.mk (hdV 0) [], s), (s1.1, true), Lib.hid (by exact ((HH0.out rfl).trans (by cases m <;> simp [loopP]) : res = (.mk hh (loopP (fun s => (.mk (hdV 0) [], s)) m (s1.1, true)).1, (loopP (fun s => (.mk (hdV 0) [], s)) m (s1.1, true)).2))), Lib.hid rfl, Lib.hid (by exact (fun h => absurd rfl h : _ ≠ _ → _))⟩
      | succ g => exact ⟨nodeP g, s1, Lib.hid (by exact (HH1.out g rfl : res = _)), Lib.hid (by exact (by simp : s1 = (s1.1, decide (g + 1 = 0) || s1.2))), Lib.hid (by exact (fun _ W' s' hD' h' => IH.out g (by omega) (lv + 1) W' r D s' (Lib.hid (by exact (by have := HLV.out; omega : lv + 1 = 201 - (g : Int)))) (by omega) hD' h' : _ ≠ _ → _))⟩
    have HLV2 := Lib.hid (by exact (by have := HLV.out; omega : 1 ≤ lv ∧ lv ≤ 201))
    clear IH HH0 HH1
    go_step
    go_step
    go_cut [6] (fun v wx => v = .int .i64 m ∧ RdSt wx r D s6 ∧ Blk wx p 27 (nodeA hh (.slice none 0 0)) ∧ Keeps (· = r) w5 wx)
    case first =>
      obtain ⟨cb, fb⟩ := hR5.bad
      rcases Nat.eq_zero_or_pos f with hf0 | hf0
      · have d : (200 : Int) < lv := by have := HLV.out; omega
        obtain ⟨hR6, hk6⟩ := hR5.set true
        have HR6 := Lib.hid hR6
        have HK6 := Lib.hid hk6
        have e := Lib.hid (show s6 = (s1.1, true) by rw [HF.out, decide_eq_true hf0, Bool.true_or])
        clear hR6 hk6 HR HF HIH HLV2
        go_wp2
        go_meet
        case rel => exact ⟨rfl, by rw [e.out]; exact HR6.out, hp5.keeps HK6.out hrp, HK6.out⟩
      · have d : ¬ (200 : Int) < lv := by have := HLV.out; omega
        have e := Lib.hid (show s6 = s1 by rw [HF.out, decide_eq_false (by omega), Bool.false_or])
        clear HR HF HIH HLV2
        go_wp2
        go_meet
        case rel => exact ⟨rfl, by rw [e.out]; exact hR5, hp5, Keeps.refl _ _⟩
    have HF6 := Lib.hid (by exact (fun h0 => by rw [HF.out, decide_eq_true h0]; rfl : f = 0 → s6.2 = true))
    clear hR5 hp5 HF HLV hf
    obtain ⟨rfl, hR6, hp6, hk6⟩ := hcut
    generalize wc = w6 at *
    have hz6 := hz5.keeps hk6 (fun e => by omega)
    have hkW6 : Keeps (· = r) W w6 := hkW5.trans hk6 (fun i hi e => e)
    have s56 := hk6.size
    clear hz5 hkW5 hk6
    obtain ⟨hlv1, hlv2⟩ := HLV2.out
    have q4 : IntKind.i64.wrap (lv + 1) = lv + 1 := by rw [IntKind.wrap_i64]; omega
    have hL0 : LstFp w6 w6.heap.size 27 (.slice none 0 0) [] := LstFp.nil _ _ _
    have HL0 := Lib.hid (show loopP G m s6 = (([] : List Kid).map (·.1) ++ (loopP G (m - 0) s6).1, (loopP G (m - 0) s6).2) from rfl)
    have hkk0 : Keeps (fun i => i = r ∨ i = p) w6 w6 := Keeps.refl _ _
    go_wp2
    go_loopw [10] (fun t wr => ∃ (j : Nat) (l : List Kid) (v : Value) (sj : St), j ≤ m ∧ t = .int .i64 j ∧ l.length = j ∧ Hid (loopP G m s6 = (l.map (·.1) ++ (loopP G (m - j) sj).1, (loopP G (m - j) sj).2)) ∧ Hid (f = 0 → sj.2 = true) ∧ RdSt wr r D sj ∧ LstFp wr w6.heap.size 27 v l ∧ Blk wr p 27 (nodeA hh v) ∧ Keeps (fun i => i = r ∨ i = p) w6 wr) (fun t _ => m - (intOf t).toNat)
    case atStart => exact ⟨0, [], _, s6, Nat.zero_le _, rfl, rfl, HL0, HF6, hR6, hL0, hp6, hkk0⟩
    case round =>
      clear hR6 HL0 hL0 hp6 hkk0 HF6
      obtain ⟨j, l, v, sj, hj, rfl, hll, HL, HFj, hRj, hL, hp, hk⟩ := hrel
      obtain ⟨cb, fb⟩ := hRj.bad
      have hp6l : p < w6.heap.size := by omega
      have hDr := hRj.lt
      by_cases hgo : j < m ∧ sj.2 = false
      · obtain ⟨hjm, hsb⟩ := hgo
        have d1 : (j : Int) < (m : Int) := by omega
        have HG := Lib.hid (by exact (fun W' h1 h2 => HIH.out (fun h => by rw [HFj.out h] at hsb; cases hsb) W' sj h1 h2 : ∀ W', D ≤ W'.heap.size → RdSt W' r D sj → Calls Tryd.prog 61 #[.pointer (some ⟨r, 0, none⟩), .int .i64 (lv + 1)] W' (RetRN W' r D (G sj).1 (G sj).2)))
        have HFn := Lib.hid (by exact (fun h => (by rw [HFj.out h] at hsb; cases hsb) : f = 0 → (G sj).2.2 = true))
        have HM := Lib.hid (by exact (by
          rw [HL.out, show m - j = (m - (j + 1)) + 1 by omega, loopP, if_neg (by rw [hsb]; decide)]
          simp : loopP G m s6 = (l.map (·.1) ++ [(G sj).1] ++ (loopP G (m - (j + 1)) (G sj).2).1, (loopP G (m - (j + 1)) (G sj).2).2)))
        rw [hsb] at cb
        clear HL HFj hsb fb HIH
        have hll2 : l.length ≤ 1000000000 := by omega
        have HLL := Lib.hid hll
        clear hll
        generalize (G sj).1 = nk at *
        generalize (G sj).2 = sk at *
        have c5 : ∀ W', Keeps (· = r) wr W' → W'.cell? ⟨p, 5, none⟩ = some v := fun W' hW => (hp.keeps hW hrp).cell 5
        go_upto_region 31 with fail
        refine wp_region_mid (fun W' => Keeps (· = r) wr W') 7 (by kernel_rfl) ?_
        refine wpAnyM_pure (i := 0) rfl (by kernel_rfl) (by kernel_rfl) (by kernel_rfl) (by decide) (fun _ _ _ h => h) (Keeps.refl (· = r) wr).drew rfl (fun W => by go_simp; try rfl) ?_
        refine wpAnyM_take (i := 1) (v := v) [7] rfl (by kernel_rfl) (by kernel_rfl) (by kernel_rfl) (by kernel_rfl) (fun _ _ _ h => h) (Keeps.refl (· = r) wr).drew (yieldsIf_value rfl (fun W hW => by have k5' := c5 W hW; go_simp; try rfl)) ?_
        simp only [Act.put, List.setIfInBounds_toArray]
        refine wpAnyM_pure (i := 2) rfl (by kernel_rfl) (by kernel_rfl) (by kernel_rfl) (by decide) (fun _ _ _ h => h) (Keeps.refl (· = r) wr).drew rfl (fun W => by go_simp; try rfl) ?_
        refine wpAnyM_pure (i := 3) rfl (by kernel_rfl) (by kernel_rfl) (by kernel_rfl) (by decide) (fun _ _ _ h => h) (Keeps.refl (· = r) wr).drew rfl (fun W => by go_simp; try rfl) ?_
        refine wpAnyM_pure (i := 4) rfl (by kernel_rfl) (by kernel_rfl) (by kernel_rfl) (by decide) (fun _ _ _ h => h) (Keeps.refl (· = r) wr).drew rfl (fun W => by go_simp; try rfl) ?_
        simp only [Act.put]
        refine wpAnyM_step (i := 5) (by kernel_rfl) rfl (by decide) ?_
        have hwrs := hk.size
        have hRd : RdSt wr.drew r D sj := hRj.keeps (Keeps.refl (fun _ => False) wr).drew (fun _ _ h => h)
        go_wp2_with (go_at_call 61; refine (HG.out wr.drew (by show D ≤ wr.heap.size; omega) hRd).mono ?_; rintro e wa ⟨sva, rfl, hna, hRa, hka⟩)
        replace hka : Keeps (· = r) wr wa := ⟨hka.os, hka.tape, hka.output, hka.size, hka.block⟩
        replace hna : NdNew wr.heap.size wa nk sva := hna
        refine stepQ_ok ⟨hka, ?_⟩
        refine wpAnyM_step (i := 6) (by kernel_rfl) rfl (by decide) ?_
        refine wpl_oneNd rfl _ rfl nk.h sva rfl ?_
        intro g7 w7 hb7 hx7 e7 s7
        have hk7 := hka.ext' hx7
        refine stepQ_end ⟨hk7, ?_⟩
        simp only [Act.put, List.setIfInBounds_toArray]
        refine wpAnyM_last3 (t := 8) (u := 9) (by kernel_rfl) rfl (by kernel_rfl) rfl (by kernel_rfl) rfl (by kernel_rfl) ?_
        have hcz := cutW_size hka.size
        refine wpl_appFp rfl _ _ rfl w6.heap.size v l nk sva g7 1 (cutW wa wr.heap.size) rfl rfl (hL.keep1 (cutW_keeps hka) (by omega)) ((cutW_ext hka.size).trans hx7) (by rw [hcz]; exact hwrs) (by rw [hcz]; exact hna.ext hx7) hb7 hll2 ?_
        intro v8 w8 hL8 hx78 hg8
        obtain ⟨f8, hL8⟩ := hL8
        have hp8 : Blk w8 p 27 (nodeA hh v) := grown_keep1 (hp.keeps hk7 hrp) hg8 (fun e => by have := (hL.own.own p e).1; omega)
        have hk8 : Keeps (fun i => i = r ∨ i = p) w6 w8 := (hk.trans hk7 (fun _ _ e => .inl e)).grown hg8 (fun k e => .inl (hL.own.own k e).1)
        have hR8 : RdSt w8 r D sk := (hRa.ext hx7).keeps (Keeps.of_grown hg8) (fun i hi e => by have := (hL.own.own i e).1; omega)
        refine stepQ_end ?_
        simp only [Act.put]
        go_wp2
        refine stepQ_ok ?_
        obtain ⟨A8, c8, rfl, _⟩ := hL8.len
        refine wpl_storeSubs rfl _ _ rfl rfl p hh _ _ rfl rfl (isSl_mk _ _ _) hp8 ?_
        intro w9 hp9 hk9
        have hk9' : Keeps (fun i => i = r ∨ i = p) w6 w9 := hk8.trans hk9 (fun _ _ e => .inr e)
        have hL9 := hL8.keep1 hk9 hp6l
        have hR9 := hR8.other hk9 hDp
        clear hx78 hL8 hp8 hk9 hg8 hk7 hb7 hna hka hx7 e7 s7 hL hp hk c5 hRa hRd hRj hR8 hk8 hcz
        go_wp2
        go_roundw
        case rel => exact ⟨j + 1, l ++ [(nk, sva, f8)], _, sk, hjm, by go_num, by rw [List.length_append, HLL.out]; rfl, Lib.hid (by exact (by rw [HM.out]; simp : loopP G m s6 = ((l ++ [(nk, sva, f8)]).map (·.1) ++ (loopP G (m - (j + 1)) sk).1, (loopP G (m - (j + 1)) sk).2))), HFn, hR9, hL9, hp9, hk9'⟩
        case measure => simp [intOf]; omega
      · have HE := Lib.hid (by exact (by
          rw [HR.out, HL.out]
          rcases Nat.lt_or_ge j m with h | h
          · have hb : sj.2 = true := by cases h9 : sj.2 with
              | true => rfl
              | false => exact absurd ⟨h, h9⟩ hgo
            rw [show m - j = (m - (j + 1)) + 1 by omega, loopP, if_pos hb]
            simp
          · rw [show m - j = 0 by omega, loopP]
            simp : res = (.mk hh (l.map (·.1)), sj)))
        have hnd := hL.node hh
        obtain ⟨A, c, rfl, _⟩ := hL.len
        have hzr := hz6.keeps hk (fun e => by rcases e with e | e <;> omega)
        have hkWr : Keeps (· = r) W wr := hkW6.trans hk (fun i hi e => by rcases e with e | e <;> omega)
        have HX := Lib.hid (by exact (fun w7 (hk7 : Keeps (· = z) wr w7) => by rw [HE.out]; exact ⟨_, rfl, (hnd.keep1 hk7 (by omega)).mono (by omega), hRj.other hk7 (by omega), hkWr.trans hk7 (fun i hi e => by omega)⟩ : ∀ w7, Keeps (· = z) wr w7 → RetRN W r D res.1 res.2 (.returned (nodeV hh (.slice A l.length c))) w7))
        by_cases hjm : j < m
        · have hb : sj.2 = true := by cases h9 : sj.2 with
            | true => rfl
            | false => exact absurd ⟨hjm, h9⟩ hgo
          have d1 : (j : Int) < (m : Int) := by omega
          rw [hb] at cb
          clear HL HIH HR HE hL hgo hb hnd
          go_wp2_with (first
            | (refine wpl_loadNd rfl _ rfl p 0 hh _ rfl hp.nd ?_)
            | (refine wpl_storeNd rfl _ _ rfl rfl z hh _ _ _ rfl rfl (isSl_mk _ _ _) hzr ?_; intro w7 hz7 hk7))
          exact ret_nd rfl rfl rfl hz7 (HX.out w7 hk7)
        · have d1 : ¬ (j : Int) < (m : Int) := by omega
          clear HL HIH HR HE hL hgo hnd
          go_wp2_with (first
            | (refine wpl_loadNd rfl _ rfl p 0 hh _ rfl hp.nd ?_)
            | (refine wpl_storeNd rfl _ _ rfl rfl z hh _ _ _ rfl rfl (isSl_mk _ _ _) hzr ?_; intro w7 hz7 hk7))
          exact ret_nd rfl rfl rfl hz7 (HX.out w7 hk7)

end Go.Proofs.YthddlhpndaffjaaDoor
