/- bits.Len64 at this program: the shelf's contract, laid. No condition. ranked.last as a contract: the greatest place in both sets. Condition: the words lie in memory. rank.walk as a contract: the spans by a parse of a right tree are laid. Condition: tree and parse lie in memory, the parse is one of the tree. engine.lay as a contract: the spans by the best parse are laid. Conditions: the engine, its spans, the scene and the tree lie in memory, the spans in a block of their own; the tree is in form and takes the piece. -/
import Derived.Shelf.Strconv.Itoa0
import Derived.Test.YtgfknlkpdiejgaaDoorProg
import Derived.Test.YtgfknlkpdiejgaaDoorZRankedWithinAF
import Derived.Lib.ItoaNum
import Derived.Test.YtgfknlkpdiejgaaDoorZRankedWithinAE
import Derived.Test.YtgfknlkpdiejgaaDoorZRankedWithinAI
import Derived.Test.YtgfknlkpdiejgaaDoorNodeC
namespace Go.Proofs
open Go.Shelf
def Tryd.lays129_ren : Go.Shelf.Ren := ⟨fun | 129 => 44 | n => n, fun | 53 => 22 | 3 => 3 | 4 => 4 | 46 => 65 | 5 => 5 | 9 => 9 | n => n, fun | n => n⟩
theorem Tryd.lays129 : Go.Proofs.Lays.n129 Tryd.prog Tryd.lays129_ren := {
  mixed := by kernel_rfl
  f129 := Tryd.func44.trans (congrArg some (by kernel_rfl))
  t3 := Tryd.underlying3
  a3 := Tryd.isAgg3
  z3 := Tryd.sizeOf3
  v3 := Tryd.zeroValue3
  t4 := Tryd.underlying4
  a4 := Tryd.isAgg4
  z4 := Tryd.sizeOf4
  v4 := Tryd.zeroValue4
  t5 := Tryd.underlying5
  a5 := Tryd.isAgg5
  z5 := Tryd.sizeOf5
  v5 := Tryd.zeroValue5
  t9 := Tryd.underlying9
  a9 := Tryd.isAgg9
  z9 := Tryd.sizeOf9
  v9 := Tryd.zeroValue9
  t46 := Tryd.underlying65
  a46 := Tryd.isAgg65
  z46 := Tryd.sizeOf65
  v46 := Tryd.zeroValue65
  t53 := Tryd.underlying22
  a53 := Tryd.isAgg22
  z53 := Tryd.sizeOf22
  v53 := Tryd.zeroValue22 }
theorem Tryd.bits_Len64 (x : Int) (w : World) (h0 : 0 ≤ x) (h1 : x ≤ 18446744073709551615) :
    Calls Tryd.prog 44 #[.int .u64 x] w fun e w' => e = .returned (.int .i64 (Lib.bitLen x.toNat)) ∧ w' = w := Any.bits_Len64 Tryd.lays129 x w h0 h1
end Go.Proofs

namespace Go.Proofs.YtgfknlkpdiejgaaDoor
open Go Go.RowKit

/-- The greatest one below n; -1: none. -/
def grP (p : Pl) : Nat → Int
  | 0 => -1
  | n + 1 => if p n = true then n else grP p n
theorem grP_skip {p : Pl} {a : Nat} : ∀ b, a ≤ b → (∀ i, a ≤ i → i < b → p i = false) → grP p b = grP p a
  | 0, h, _ => by rw [show a = 0 by omega]
  | b + 1, h, hp => by
    by_cases e : a = b + 1
    · rw [e]
    · rw [grP, if_neg (by rw [hp b (by omega) (by omega)]; decide)]
      exact grP_skip b (by omega) (fun i h1 h2 => hp i h1 (by omega))
theorem grP_at {p : Pl} {k b : Nat} (hk : p k = true) (hb : k < b) (h : ∀ i, k < i → i < b → p i = false) : grP p b = k := by
  rw [grP_skip (a := k + 1) b hb (fun i h1 h2 => h i (by omega) h2), grP, if_pos hk]
def andP (p q : Pl) : Pl := fun i => p i && q i
def lastV (p q : Pl) (nw : Nat) (least : Int) : Int := if grP (andP p q) (64 * nw) < least then -1 else grP (andP p q) (64 * nw)
theorem top_bit {x : Nat} (h0 : x ≠ 0) (hx : x < 18446744073709551616) : 1 ≤ Lib.bitLen x ∧ Lib.bitLen x ≤ 64 ∧ x.testBit (Lib.bitLen x - 1) = true ∧ ∀ j, Lib.bitLen x ≤ j → x.testBit j = false := by
  obtain ⟨h1, h2, h3⟩ := Lib.bitLenAux_bounds 64 x hx h0
  have e : Lib.bitLen x = Lib.bitLenAux 64 x := rfl
  rw [e]
  generalize Lib.bitLenAux 64 x = l at *
  refine ⟨h1, ?_, ?_, fun j hj => Nat.testBit_lt_two_pow (Nat.lt_of_lt_of_le h3 (Nat.pow_le_pow_right (by decide) hj))⟩
  · refine Nat.le_of_not_lt fun hl => ?_
    have : (2 : Nat) ^ 64 ≤ 2 ^ (l - 1) := Nat.pow_le_pow_right (by decide) (by omega)
    have : (2 : Nat) ^ 64 = 18446744073709551616 := by decide
    omega
  · exact Nat.testBit_of_two_pow_le_and_two_pow_add_one_gt h2 (by rw [show l - 1 + 1 = l by omega]; exact h3)

set_option maxRecDepth 100000 in
set_option maxHeartbeats 8000000 in
theorem last_any (v u : Value) (nw : Nat) (p q : Pl) (least : Int) (w : World) (hv : RdP w v nw p) (hu : RdP w u nw q) (hnw : nw ≤ 1000000) (hl : 0 ≤ least) :
    Calls Tryd.prog 23 #[v, u, .int .i64 least] w fun e w' => e = .returned (.int .i64 (lastV p q nw least)) ∧ Ext w w' := by
  obtain ⟨A, c, rfl, hlc, hcv⟩ := hv
  obtain ⟨D, d, rfl, hld, hcu⟩ := hu
  have HV := Lib.hid hcv
  have HU := Lib.hid hcu
  generalize hr : lastV p q nw least = res
  have HR := Lib.hid hr
  clear hcv hcu hr
  go_enter Tryd.func23, Tryd.ntmps23
  go_wp2
  go_loopw [7] (fun iv wr => ∃ j : Nat, j ≤ nw ∧ iv = .int .i64 ((j : Int) - 1) ∧ Ext w wr ∧ Hid (∀ i, 64 * j ≤ i → i < 64 * nw → andP p q i = false)) (fun iv _ => (intOf iv + 1).toNat)
  case atStart => exact ⟨nw, Nat.le_refl _, by go_num, Ext.refl _, Lib.hid (fun i h1 h2 => by omega)⟩
  case round =>
    obtain ⟨j, hj, rfl, hx, HB⟩ := hrel
    have HX := Lib.hid hx
    obtain ⟨w1, hw1⟩ : ∃ w, w = wr := ⟨_, rfl⟩
    subst hw1
    clear hx
    by_cases h0 : j = 0
    · subst h0
      have HF : Hid (res = -1) := Lib.hid (by
        rw [← HR.out]
        unfold lastV
        rw [grP_skip (a := 0) (64 * nw) (Nat.zero_le _) (fun i _ h2 => HB.out i (by omega) h2), grP, if_pos (by omega)])
      go_wp2
      go_ret
      exact ⟨by rw [HF.out]; rfl, HX.out⟩
    · obtain ⟨k, rfl⟩ : ∃ k, j = k + 1 := ⟨j - 1, by omega⟩
      obtain ⟨gv, ov, hA, cv⟩ := HV.out k (by omega)
      obtain ⟨gu, ou, hD, cu⟩ := HU.out k (by omega)
      subst hA hD
      replace cv := HX.out.cell cv
      replace cu := HX.out.cell cu
      have e1 : ((k + 1 : Nat) : Int) - 1 = (k : Int) := by omega
      rw [e1]
      have han : bits .and .u64 (wd p k : Int) (wd q k : Int) = (wd (andP p q) k : Int) := by
        rw [show (bits .and .u64 (wd p k : Int) (wd q k : Int)) = ((wd p k &&& wd q k : Nat) : Int) from u64_and_nat _ _ (wd_lt p k) (wd_lt q k), wd_and]
        rfl
      have hxl := wd_lt (andP p q) k
      have hbits : ∀ r, r < 64 → (wd (andP p q) k).testBit r = andP p q (64 * k + r) := fun r hr => wd_bit _ _ _ hr
      have HBI := Lib.hid hbits
      have q9 : (0 : Int) ≤ (k : Int) := by omega
      clear e1 hbits
      generalize wd p k = xp at *
      generalize wd q k = xq at *
      generalize wd (andP p q) k = x at *
      go_upto_region 4 with fail
      go_cut [8] (fun v wx => v = .int .u64 x ∧ Ext w1 wx)
      case first =>
        go_region
        all_goals go_wp2
        all_goals go_meet
        all_goals exact ⟨rfl, (Ext.refl w1).drew⟩
      obtain ⟨rfl, hx2⟩ := hcut
      obtain ⟨w2, hw2⟩ : ∃ w, w = wc := ⟨_, rfl⟩
      subst hw2
      have HX2 := Lib.hid (HX.out.trans hx2)
      clear hx2 cv cu han
      by_cases hz : x = 0
      · subst hz
        have HB2 : Hid (∀ i, 64 * k ≤ i → i < 64 * nw → andP p q i = false) := Lib.hid (fun i h1 h2 => by
          rcases Nat.lt_or_ge i (64 * (k + 1)) with h3 | h3
          · have := HBI.out (i - 64 * k) (by omega)
            rw [Nat.zero_testBit, show 64 * k + (i - 64 * k) = i by omega] at this
            exact this.symm
          · exact HB.out i h3 h2)
        clear HBI HB
        go_wp2
        go_roundw
        case rel => exact ⟨k, by omega, by go_num, HX2.out, HB2⟩
        case measure => simp [intOf]
      · have q8 : ((x : Int) != 0) = true := by rw [bne_iff_ne]; omega
        obtain ⟨t1, t2, t3, t4⟩ := top_bit hz hxl
        have HLN := Lib.hid (Tryd.bits_Len64 (x : Int) w2 (by omega) (by omega))
        rw [Int.toNat_natCast] at HLN
        have HG : Hid (grP (andP p q) (64 * nw) = ((64 * k + (Lib.bitLen x - 1) : Nat) : Int)) := Lib.hid (grP_at (by rw [← HBI.out _ (by omega)]; exact t3) (by omega) (fun i h1 h2 => by
          rcases Nat.lt_or_ge i (64 * (k + 1)) with h3 | h3
          · have := HBI.out (i - 64 * k) (by omega)
            rw [t4 (i - 64 * k) (by omega), show 64 * k + (i - 64 * k) = i by omega] at this
            exact this.symm
          · exact HB.out i h3 h2))
        have HRR : Hid (res = if ((64 * k + (Lib.bitLen x - 1) : Nat) : Int) < least then -1 else ((64 * k + (Lib.bitLen x - 1) : Nat) : Int)) := Lib.hid (by rw [← HR.out]; unfold lastV; rw [HG.out])
        clear HG HBI HB t3 t4 hz
        generalize Lib.bitLen x = b at *
        have hn : ((64 * k + (b - 1) : Nat) : Int) = 64 * (k : Int) + (b : Int) - 1 := by omega
        rw [hn] at HRR
        by_cases hlt : 64 * (k : Int) + (b : Int) - 1 < least
        · have HF : Hid (res = -1) := Lib.hid (by rw [HRR.out, if_pos hlt])
          clear HRR hn
          go_wp2_with (go_at_call 44; refine HLN.out.mono ?_; rintro e w3 ⟨rfl, h3⟩; subst h3)
          go_ret
          exact ⟨by rw [HF.out]; rfl, HX2.out⟩
        · have HF : Hid (res = 64 * (k : Int) + (b : Int) - 1) := Lib.hid (by rw [HRR.out, if_neg hlt])
          clear HRR hn
          go_wp2_with (go_at_call 44; refine HLN.out.mono ?_; rintro e w3 ⟨rfl, h3⟩; subst h3)
          go_ret
          exact ⟨by rw [HF.out]; rfl, HX2.out⟩

end Go.Proofs.YtgfknlkpdiejgaaDoor

namespace Go.Proofs.YtgfknlkpdiejgaaDoor
open Go Go.RowKit

def setS (num : Int) (x : Int × Int) (l : List (Int × Int)) : List (Int × Int) := if num < l.length then l.set num.toNat x else l
mutual
def walkN : Ps → Nd → List (Int × Int) → List (Int × Int)
  | .mk d ps, .mk h subs, l => walkR ps (ndsOf h subs d ps.length) (if h.kind = 7 then setS h.num (d.a, d.b) (unsetL subs l) else l)
def walkR : List Ps → List Nd → List (Int × Int) → List (Int × Int)
  | [], _, l => l
  | _ :: _, [], l => l
  | p :: r, n :: nr, l => walkR r nr (walkN p n l)
end
theorem setS_len (num : Int) (x : Int × Int) (l : List (Int × Int)) : (setS num x l).length = l.length := by unfold setS; split <;> simp
theorem walkR_app : ∀ (a : List Ps) (a' : List Nd) (b : List Ps) (b' : List Nd) (l : List (Int × Int)), a.length = a'.length → walkR (a ++ b) (a' ++ b') l = walkR b b' (walkR a a' l)
  | [], [], _, _, _, _ => by simp [walkR]
  | p :: a, n :: a', b, b', l, h => by
    show walkR (p :: (a ++ b)) (n :: (a' ++ b')) l = _
    rw [walkR, walkR, walkR_app a a' b b' _ (by simpa using h)]
  | [], _ :: _, _, _, _, h => by cases h
  | _ :: _, [], _, _, _, h => by cases h
theorem walkR_step {ps : List Ps} {nds : List Nd} {k : Nat} (h : k < ps.length) (h' : k < nds.length) (l : List (Int × Int)) : walkR (ps.take (k + 1)) (nds.take (k + 1)) l = walkN ps[k] nds[k] (walkR (ps.take k) (nds.take k) l) := by
  rw [take_snoc ps k h, take_snoc nds k h', walkR_app _ _ _ _ _ (by simp; omega), walkR, walkR]
theorem walkR_done {ps : List Ps} {nds : List Nd} (h : ps.length = nds.length) (l : List (Int × Int)) : walkR (ps.take ps.length) (nds.take ps.length) l = walkR ps nds l := by
  rw [List.take_of_length_le (Nat.le_refl _), List.take_of_length_le (by omega)]
mutual
theorem walkN_len : ∀ (p : Ps) (n : Nd) (l : List (Int × Int)), (walkN p n l).length = l.length
  | .mk d ps, .mk h subs, l => by
    rw [walkN, walkR_len]
    split
    · rw [setS_len, unsetL_len]
    · rfl
theorem walkR_len : ∀ (ps : List Ps) (ns : List Nd) (l : List (Int × Int)), (walkR ps ns l).length = l.length
  | [], _, _ => by rw [walkR]
  | _ :: _, [], _ => by rw [walkR]
  | p :: r, n :: nr, l => by rw [walkR, walkR_len, walkN_len]
end
section
variable {sz : Int} {L : Hd → Int → Int → Bool}
theorem rowN_get : ∀ (ps : List Ps) (nds : List Nd) (a b : Int), rowN sz L ps nds a b = true → ∀ k (hk : k < ps.length), ∃ h' : k < nds.length, parseN sz L ps[k] nds[k] = true
  | [], _, _, _, _, k, hk => absurd hk (Nat.not_lt_zero _)
  | _ :: _, [], _, _, h, _, _ => by rw [rowN] at h; cases h
  | p :: r, n :: nr, a, b, h, k, hk => by
    rw [rowN, Bool.and_eq_true, Bool.and_eq_true] at h
    cases k with
    | zero => exact ⟨by simp, h.1.2⟩
    | succ k =>
      obtain ⟨h1, h2⟩ := rowN_get r nr _ b h.2 k (by simpa using hk)
      exact ⟨by simpa using h1, by simpa using h2⟩
theorem parse_inv {d : Pd} {ps : List Ps} {h : Hd} {subs : List Nd} (hp : parseN sz L (.mk d ps) (.mk h subs) = true) (hk : 5 ≤ h.kind) : okB h subs.length d ps = true ∧ rowN sz L ps (ndsOf h subs d ps.length) d.a d.b = true := by
  rw [parseN, Bool.and_eq_true, if_pos hk, Bool.and_eq_true] at hp
  exact hp.2
theorem parse_leaf {d : Pd} {ps : List Ps} {h : Hd} {subs : List Nd} (hp : parseN sz L (.mk d ps) (.mk h subs) = true) (hk : ¬ 5 ≤ h.kind) : ps = [] := by
  rw [parseN, Bool.and_eq_true, if_neg hk, Bool.and_eq_true, decide_eq_true_eq] at hp
  exact List.eq_nil_of_length_eq_zero hp.2.1
theorem Keeps.cellb {w w' : World} {g : Nat} (hk : Keeps (· = g) w w') {p : Addr} {v : Value} (h : w.cell? p = some v) (hg : p.block ≠ g) : w'.cell? p = some v := cell_keeps h hk hg
theorem own_ne {w : World} {B g nn c z : Nat} {l : List (Int × Int)} {t : TypeId} {cs : Array Value} (hO : OwnSp w B (.slice (some ⟨g, 0, none⟩) nn c) l) (hb : Blk w z t cs) (ht : t ≠ 42) : z ≠ g := fun e => by
  subst e
  rcases OwnR.slice hO with ⟨h0, _⟩ | ⟨g', cap, cur, hv, _, hB, _⟩
  · cases h0
  · simp only [Value.slice.injEq, Option.some.injEq, Addr.mk.injEq, and_true] at hv
    rw [← hv.1] at hB
    exact hb.ne hB ht rfl

end

end Go.Proofs.YtgfknlkpdiejgaaDoor

namespace Go.Proofs.YtgfknlkpdiejgaaDoor
open Go Go.RowKit

def LayOf (W : World) (x : Value) (s : ByteArray) (m : List UInt8) (nw ge g c B : Nat) (t : Nd) : Prop :=
  ∀ (svn : Value) (w : World) (l : List (Int × Int)) (a b tg tk : Nat), NdCap W t svn → NdAt w tg tk t.h svn → tg ≠ g → formB t = true → smallN t → Ext W w → EnSp w ge x nw g l.length c → OwnSp w B (.slice (some ⟨g, 0, none⟩) l.length c) l → tkN (lfM s m) t a b → b ≤ s.size →
    Calls Tryd.prog 45 #[.pointer (some ⟨ge, 0, none⟩), .pointer (some ⟨tg, tk, none⟩), .int .i64 a, .int .i64 b] w fun r w' => r = .returned (.tuple #[]) ∧ OwnSp w' B (.slice (some ⟨g, 0, none⟩) l.length c) (walkN (bestN (lfM s m) t a b) t l) ∧ Keeps (· = g) w w'
theorem Ext.keepG {W w w' : World} {g : Nat} (h : Ext W w) (hk : Keeps (· = g) w w') (hg : W.heap.size ≤ g) : Ext W w' := h.keeps hk (fun i h1 h2 => by have h3 : i = g := h2; omega)

section
variable {W : World} {x : Value} {s : ByteArray} {m : List UInt8} {nw ge g c B : Nat}
/-- A group. -/
theorem walk_group {h : Hd} {s0 : Nd} {a b : Nat} (hk : h.kind = 7) (ht : tkN (lfM s m) (.mk h [s0]) a b) (l : List (Int × Int)) :
    walkN (bestN (lfM s m) (.mk h [s0]) a b) (.mk h [s0]) l = walkN (bestN (lfM s m) s0 a b) s0 (setS h.num (a, b) (unsetN s0 l)) := by
  have e : bestA (lfM s m) [s0] a b = bestN (lfM s m) s0 a b := bestA_one s0 a b ((tk_group h s0 hk a b).1 ht)
  rw [bestN, walkN, if_pos (show h.kind = 6 ∨ h.kind = 7 from .inr hk), if_pos hk]
  unfold ndsOf
  rw [if_neg (by omega), if_neg (by omega), walkR, walkR, unsetL, unsetL, e]
theorem walk_leaf {h : Hd} {subs : List Nd} {a b : Nat} (hk : ¬ (5 ≤ h.kind)) (l : List (Int × Int)) : walkN (bestN (lfM s m) (.mk h subs) a b) (.mk h subs) l = l := by
  rw [bestN, walkN, if_neg (show ¬ (h.kind = 6 ∨ h.kind = 7) by omega), if_neg (show ¬ h.kind = 5 by omega), if_neg (show ¬ h.kind = 8 by omega), if_neg (show ¬ h.kind = 7 by omega), walkR]

set_option maxRecDepth 100000 in
set_option maxHeartbeats 8000000 in
/-- A node without subs. -/
theorem lay_leaf (h : Hd) (subs : List Nd) (hk : ¬ 5 ≤ h.kind) (h1 : 1 ≤ h.kind) : LayOf W x s m nw ge g c B (.mk h subs) := by
  intro svn w l a b tg tk hN hA htg hf hsm hx hE hO ht hb
  have n0 : w.cell? ⟨tg, tk, none⟩ = some (.int .i64 h.kind) := hA 0 (by decide)
  have HW := Lib.hid (walk_leaf (s := s) (m := m) (subs := subs) (a := a) (b := b) hk l)
  have HO := Lib.hid hO
  have hc : h.kind = 1 ∨ h.kind = 2 ∨ h.kind = 3 ∨ h.kind = 4 := by omega
  clear hN hA hf hsm hx hE hO ht hk h1
  rcases hc with hk | hk | hk | hk
  all_goals
    rw [hk] at n0
    clear hk
    go_enter Tryd.func45, Tryd.ntmps45
    go_wp2
    go_end0
    exact ⟨rfl, by rw [HW.out]; exact HO.out, Keeps.refl _ _⟩

set_option maxRecDepth 100000 in
set_option maxHeartbeats 8000000 in
/-- A group. -/
theorem lay_group (h : Hd) (s0 : Nd) (hk : h.kind = 7) (IH : LayOf W x s m nw ge g c B s0) (hge : ge ≠ g) (hg : W.heap.size ≤ g) : LayOf W x s m nw ge g c B (.mk h [s0]) := by
  intro svn w l a b tg tk hN hA htg hf hsm hx hE hO ht hb
  have hcase := form_cases hf
  have hf0 := form_sub hf s0 (by simp)
  have hsm0 := smallL_mem hsm.2 s0 (by simp)
  have ht0 := (tk_group h s0 hk a b).1 ht
  simp only [Nd.h] at hA
  have n0 : w.cell? ⟨tg, tk, none⟩ = some (.int .i64 h.kind) := hA 0 (by decide)
  have n5 : w.cell? ⟨tg, tk + 5, none⟩ = some svn := hA 5 (by decide)
  have n6 : w.cell? ⟨tg, tk + 6, none⟩ = some (.int .i64 h.num) := hA 6 (by decide)
  obtain ⟨SA, sc, rfl, _, hNs⟩ := hN
  obtain ⟨g0, o0, sv0, rfl, hat, hok⟩ := hNs.get 0 (by simp)
  simp only [List.getElem_cons_zero, Nat.zero_mul, Nat.add_zero, List.length_singleton] at hat hok n5
  have hatW : NdAt W g0 o0 s0.h sv0 := fun i hi => hat i hi
  have hg0 : g0 < W.heap.size := World.block_lt_of_cell? W ⟨g0, o0 + 0, none⟩ (hatW 0 (by decide))
  obtain ⟨j, hj⟩ := Int.eq_ofNat_of_zero_le (show 0 ≤ h.num by omega)
  have HWK := Lib.hid (walk_group hk ht l)
  have HUN := Lib.hid (unsetE_any s0 sv0 x W w B ge nw g l.length c g0 o0 l hok.ok (hatW.ext hx) (by omega) hge hf0 hsm0 hx hg hE hO)
  obtain ⟨l1, hl1⟩ : ∃ l1, l1 = unsetN s0 l := ⟨_, rfl⟩
  have hll1 : l1.length = l.length := by rw [hl1, unsetN_len]
  obtain ⟨l2, hl2⟩ : ∃ l2, l2 = setS h.num (a, b) l1 := ⟨_, rfl⟩
  have hll2 : l2.length = l.length := by rw [hl2, setS_len, hll1]
  have HL2 := Lib.hid hl2
  rw [← hl1] at HUN HWK
  rw [← hl2] at HWK
  have HLL1 := Lib.hid hll1
  have HLL2 := Lib.hid hll2
  have HIH := Lib.hid (fun w' (hx' : Ext W w') hE' hO' => IH sv0 w' l2 a b g0 o0 hok (hatW.ext hx') (by omega) hf0 hsm0 hx' hE' hO' ht0 hb)
  have HX := Lib.hid hx
  have HE := Lib.hid hE
  rw [hk] at n0
  rw [hj] at n6 HL2
  clear hcase hf hf0 hsm hsm0 ht ht0 hA hNs hat hok hatW hx hE hO hk hj hl1 hl2 hll1 hll2 IH
  go_enter Tryd.func45, Tryd.ntmps45
  go_upto_region 3 with (go_at_call 50; refine HUN.out.mono ?_; rintro e w1 ⟨rfl, hO1, hk1⟩)
  replace n6 := cell_keeps n6 hk1 htg
  have n5' := cell_keeps n5 hk1 htg
  have hE1 : EnSp w1 ge x nw g l.length c := HE.out.keeps hk1 hge
  have e2 : w1.cell? ⟨ge, 2, none⟩ = some (.slice (some ⟨g, 0, none⟩) l.length c) := hE1.cell 2
  have HO1 := Lib.hid hO1
  have HK1 := Lib.hid hk1
  have HE1 := Lib.hid hE1
  have HN5 := Lib.hid n5'
  have n6' := cell_plus n6
  have e2' := cell_plus e2
  clear n0 n5 n5' hO1 hk1 hE1 HUN
  go_cut [33] (fun v wx => v = .bool (decide ((j : Int) < (l.length : Int))) ∧ Ext w1 wx)
  case first =>
    clear n6 e2
    by_cases hlt : (j : Int) < (l.length : Int)
    · have HF : Hid (decide ((j : Int) < (l.length : Int)) = true) := Lib.hid (decide_eq_true hlt)
      refine wp_region_plus (by kernel_rfl) (by kernel_rfl) ?_
      iterate 10 (go_big_quiet_step (fail))
      refine wpQuiet_nil ?_
      intro y
      clear n6' e2'
      go_wp2
      go_meet
      case rel => exact ⟨by rw [HF.out], plus_ext w1 y⟩
    · have HF : Hid (decide ((j : Int) < (l.length : Int)) = false) := Lib.hid (decide_eq_false hlt)
      refine wp_region_plus (by kernel_rfl) (by kernel_rfl) ?_
      iterate 10 (go_big_quiet_step (fail))
      refine wpQuiet_nil ?_
      intro y
      clear n6' e2'
      go_wp2
      go_meet
      case rel => exact ⟨by rw [HF.out], plus_ext w1 y⟩
  obtain ⟨rfl, hx2⟩ := hcut
  obtain ⟨w2, hw2⟩ : ∃ w, w = wc := ⟨_, rfl⟩
  subst hw2
  have HO2 := Lib.hid (OwnR.ext HO1.out hx2)
  have HX2 := Lib.hid hx2
  replace n6 := hx2.cell n6
  replace e2 := hx2.cell e2
  clear hx2 n6' e2'
  go_step
  go_cut [33] (fun _ wx => OwnSp wx B (.slice (some ⟨g, 0, none⟩) l.length c) l2 ∧ Keeps (· = g) w2 wx)
  case first =>
    by_cases hlt : (j : Int) < (l.length : Int)
    · rw [decide_eq_true hlt]
      have hjl : j < l.length := by omega
      have hjl1 : j < l1.length := by rw [HLL1.out]; exact hjl
      have HL3 : Hid (l2 = l1.set j ((a : Int), (b : Int))) := Lib.hid (by rw [HL2.out]; unfold setS; rw [if_pos (by rw [HLL1.out]; exact hlt), Int.toNat_natCast])
      go_upto_region 4 with fail
      have n6' := cell_plus n6
      have e2' := cell_plus e2
      refine wp_region_plus_tail 12 (by kernel_rfl) (by kernel_rfl) ?_
      simp only [List.take_succ_cons, List.take_zero, List.drop_succ_cons, List.drop_zero]
      iterate 12 (go_big_quiet_step (fail))
      refine wpQuiet_nil ?_
      intro y
      have hO2 := OwnR.ext HO2.out (plus_ext w2 y)
      clear n6' e2' n6 e2
      go_wp2_with (refine wpl_setSp rfl _ _ rfl rfl B g _ c l1 j ((a : Int), (b : Int)) rfl rfl hO2 hjl1 ?_; intro w3 hO3 hk3)
      go_meet
      case rel => exact ⟨by rw [HL3.out]; exact hO3, (Keeps.of_ext (plus_ext w2 y)).trans hk3 (fun _ _ h => h)⟩
    · rw [decide_eq_false hlt]
      have HL3 : Hid (l2 = l1) := Lib.hid (by rw [HL2.out]; unfold setS; rw [if_neg (by rw [HLL1.out]; exact hlt)])
      clear n6 e2
      go_wp2
      go_meet
      case rel => exact ⟨by rw [HL3.out]; exact HO2.out, Keeps.refl _ _⟩
  obtain ⟨hO3, hk3⟩ := hcut
  obtain ⟨w3, hw3⟩ : ∃ w, w = wc := ⟨_, rfl⟩
  subst hw3
  have hk13 : Keeps (· = g) w1 w3 := (Keeps.of_ext HX2.out).trans hk3 (fun _ _ h => h)
  have hk03 : Keeps (· = g) w w3 := HK1.out.trans hk13 (fun _ _ h => h)
  have n5 := cell_keeps HN5.out hk13 htg
  have HC := Lib.hid (HIH.out w3 (HX.out.keepG hk03 hg) (by rw [HLL2.out]; exact HE1.out.keeps hk13 hge) (by rw [HLL2.out]; exact hO3))
  rw [HLL2.out] at HC
  have HK := Lib.hid hk03
  clear hO3 hk3 hk13 hk03 n6 e2
  go_wp2_with (go_at_call 45; refine HC.out.mono ?_; rintro e w4 ⟨rfl, hO4, hk4⟩)
  go_end0
  exact ⟨rfl, by rw [HWK.out]; exact hO4, HK.out.trans hk4 (fun _ _ h => h)⟩
end

end Go.Proofs.YtgfknlkpdiejgaaDoor
