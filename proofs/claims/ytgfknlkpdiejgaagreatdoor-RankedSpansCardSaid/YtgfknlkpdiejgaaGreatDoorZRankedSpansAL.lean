/- rank.parse as a contract: whether a parse is one of a right tree. Condition: both lie in memory; the scene is a new one of at most a million bytes. Lists of spans that the program made; rank.unset as a contract: the spans of all groups of a tree are laid to nowhere. Condition: the tree lies in memory, it is in form. engine.unset as a contract: the spans of all groups of a tree are laid to nowhere. Condition: the engine, its spans and the tree lie in memory, the spans in a block of their own; the tree is in form. The best parse of a piece that a tree takes, in plain words; it is a parse of the tree. No program. -/
import Derived.Test.YtgfknlkpdiejgaaGreatDoorZRankedSpansAK
import Derived.Test.YtgfknlkpdiejgaaGreatDoorZRankedSpansAC
import Derived.Test.YtgfknlkpdiejgaaGreatDoorZRankedSpansAH
import Derived.Test.YtgfknlkpdiejgaaGreatDoorZRankedSpansAA
import Derived.Test.YtgfknlkpdiejgaaGreatDoorZRankedSpansAJ
namespace Go.Proofs.YtgfknlkpdiejgaaGreatDoor
open Go Go.RowKit

section
variable {s : ByteArray} {c e : Int} {x : Value}
theorem new_begin (s : ByteArray) (c e i : Int) : sBegin (mkAt s c e s.size) i = srB s c e false i := (new_tells s c e i).2.1
theorem new_end (s : ByteArray) (c e i : Int) : sEnd (mkAt s c e s.size) i = srE s c e false i := (new_tells s c e i).2.2.1

end

end Go.Proofs.YtgfknlkpdiejgaaGreatDoor

namespace Go.Proofs.YtgfknlkpdiejgaaGreatDoor
open Go Go.RowKit

def spC (x : Int × Int) : List Value := [.int .i64 x.1, .int .i64 x.2]
theorem spC_len (x : Int × Int) : (spC x).length = 2 := rfl
def spR (l : List (Int × Int)) : List (List Value) := l.map spC
@[simp] theorem spR_len (l : List (Int × Int)) : (spR l).length = l.length := by simp [spR]
theorem spR_set (l : List (Int × Int)) (j : Nat) (x : Int × Int) : (spR l).set j (spC x) = spR (l.set j x) := by simp [spR, List.map_set]
theorem spR_get (l : List (Int × Int)) (j : Nat) (h : j < l.length) : (spR l)[j]? = some (spC l[j]) := by simp [spR, h]
abbrev OwnSp (w : World) (B : Nat) (v : Value) (l : List (Int × Int)) : Prop := OwnR w B 52 2 v (spR l)
theorem info_sp : (Tryz.prog.info? 52).map (·.size) = some 2 := by kernel_rfl

section
variable {ops : Array Oper} {rest : List Oper} {o : Oper} {a : Act} {w : World} {Q : Exit → Act → World → Prop}
/-- The store of a span into a list of the call's own. -/
theorem wpl_setSp (hgd : o.guard = none) (x y : Operand) (ho : o.op = .store 52 x y) (hd : o.dst = none) (B g n c : Nat) (l : List (Int × Int)) (j : Nat) (s : Int × Int) (hx : a.eval x = .pointer (some ⟨g, j * 2, none⟩)) (hy : a.eval y = .agg #[.int .i64 s.1, .int .i64 s.2])
    (hO : OwnSp w B (.slice (some ⟨g, 0, none⟩) n c) l) (hj : j < l.length)
    (hK : ∀ w1, OwnSp w1 B (.slice (some ⟨g, 0, none⟩) n c) (l.set j s) → Keeps (· = g) w w1 → wpList Tryz.prog ops Q rest a w1) : wpList Tryz.prog ops Q (o :: rest) a w := by
  have hpa : a.put o.dst undef = a := by rw [hd]; rfl
  rw [← hpa] at hK
  obtain ⟨h1, h2⟩ := OwnR.store hO (by decide) j (by simpa using hj) (spC_len s)
  rw [spR_set] at h1
  have hk : Keeps (· = g) w (w.setCells g (j * 2) (spC s)) := (Keeps.of_grown h2).mono fun i _ e => by injection e with e; exact e.symm
  refine wpList_store_mid hgd 52 x y ho g (j * 2) #[.int .i64 s.1, .int .i64 s.2] hx hy (fun i hi => ⟨?_, OwnR.frozen hO _⟩) info_sp (by simp [Value.oneCell']) (hK _ h1 hk)
  rw [OwnR.cell hO j _ (spR_get l j hj) i hi, List.getElem?_eq_getElem (show i < (spC l[j]).length from hi)]
  rfl
end

mutual
def unsetN : Nd → List (Int × Int) → List (Int × Int)
  | .mk h subs, l => unsetL subs (if h.kind = 7 ∧ h.num < l.length then l.set h.num.toNat (-1, -1) else l)
def unsetL : List Nd → List (Int × Int) → List (Int × Int)
  | [], l => l
  | n :: r, l => unsetL r (unsetN n l)
end
theorem unsetL_snoc : ∀ (a : List Nd) (n : Nd) (l : List (Int × Int)), unsetL (a ++ [n]) l = unsetN n (unsetL a l)
  | [], n, l => by simp [unsetL]
  | x :: a, n, l => by
    show unsetL (x :: (a ++ [n])) l = _
    rw [unsetL, unsetL, unsetL_snoc a n]
mutual
theorem unsetN_len : ∀ (n : Nd) (l : List (Int × Int)), (unsetN n l).length = l.length
  | .mk h subs, l => by
    rw [unsetN, unsetL_len]
    split
    · simp
    · rfl
theorem unsetL_len : ∀ (s : List Nd) (l : List (Int × Int)), (unsetL s l).length = l.length
  | [], l => by rw [unsetL]
  | n :: r, l => by rw [unsetL, unsetL_len r, unsetN_len n]
end
theorem OwnSp.len {w : World} {B g n c : Nat} {l : List (Int × Int)} (h : OwnSp w B (.slice (some ⟨g, 0, none⟩) n c) l) : n = l.length := by
  rcases OwnR.slice h with ⟨h0, _⟩ | ⟨g', cap, cur, hv, _⟩
  · cases h0
  · simp only [Value.slice.injEq, spR_len] at hv; exact hv.2.1

end Go.Proofs.YtgfknlkpdiejgaaGreatDoor

namespace Go.Proofs.YtgfknlkpdiejgaaGreatDoor
open Go Go.RowKit

/-- The engine with its spans. -/
def EnSp (w : World) (ge : Nat) (x : Value) (nw g n c : Nat) : Prop := Blk w ge 93 #[x, .int .i64 nw, .slice (some ⟨g, 0, none⟩) n c]

set_option maxRecDepth 100000 in
set_option maxHeartbeats 8000000 in
theorem unsetE_any : ∀ (t : Nd) (svn x : Value) (W w : World) (B ge nw g nn c tg tk : Nat) (l : List (Int × Int)), NdOk W t svn → NdAt w tg tk t.h svn → tg ≠ g → ge ≠ g → formB t = true → smallN t → Ext W w → W.heap.size ≤ g → EnSp w ge x nw g nn c → OwnSp w B (.slice (some ⟨g, 0, none⟩) nn c) l →
    Calls Tryz.prog 73 #[.pointer (some ⟨ge, 0, none⟩), .pointer (some ⟨tg, tk, none⟩)] w fun r w' => r = .returned (.tuple #[]) ∧ OwnSp w' B (.slice (some ⟨g, 0, none⟩) nn c) (unsetN t l) ∧ Keeps (· = g) w w' :=
  Nd.ind fun h subs ih svn x W w B ge nw g nn c tg tk l hN hA htg hge hf hsm hx hg hE hO => by
  have hcase := form_cases hf
  have hsub := form_sub hf
  have hnl := OwnSp.len hO
  subst hnl
  simp only [Nd.h] at hA
  have n0 : w.cell? ⟨tg, tk, none⟩ = some (.int .i64 h.kind) := hA 0 (by decide)
  have n5 : w.cell? ⟨tg, tk + 5, none⟩ = some svn := hA 5 (by decide)
  have n6 : w.cell? ⟨tg, tk + 6, none⟩ = some (.int .i64 h.num) := hA 6 (by decide)
  have e2 : w.cell? ⟨ge, 2, none⟩ = some (.slice (some ⟨g, 0, none⟩) l.length c) := hE.cell 2
  obtain ⟨SA, sc, rfl, hNs⟩ := hN
  have HNS := Lib.hid hNs
  have HE := Lib.hid hE
  have HX := Lib.hid hx
  have HO := Lib.hid hO
  have HIH := Lib.hid ih
  have HSUB := Lib.hid hsub
  have HSM := Lib.hid hsm.2
  have hlen := hsm.1
  obtain ⟨l1, hl1⟩ : ∃ l1, l1 = if h.kind = 7 ∧ h.num < l.length then l.set h.num.toNat (-1, -1) else l := ⟨_, rfl⟩
  have HL1 := Lib.hid hl1
  have hun : unsetN (.mk h subs) l = unsetL subs l1 := by rw [unsetN, hl1]
  have HUN := Lib.hid hun
  have hnum : h.kind = 7 → 0 ≤ h.num := fun hk => by omega
  have HNUM := Lib.hid hnum
  have hll1 : l1.length = l.length := by rw [hl1]; split <;> simp
  have HLL := Lib.hid hll1
  clear hA hE hx hO ih hsub hsm hcase hf hl1 hun hnum hll1 hNs
  go_enter Tryz.func73, Tryz.ntmps73
  -- the test and the store
  have n0' := cell_plus n0
  have n6' := cell_plus n6
  have e2' := cell_plus e2
  go_upto_region 0 with fail
  go_cut [21] (fun v wx => v = .bool (decide (h.kind = 7 ∧ h.num < l.length)) ∧ Ext w wx)
  case first =>
    by_cases hk : h.kind = 7
    · by_cases hlt : h.num < l.length
      · have q1 : (h.kind == 7) = true := by simpa using hk
        have HF : Hid (decide (h.kind = 7 ∧ h.num < l.length) = true) := Lib.hid (decide_eq_true ⟨hk, hlt⟩)
        generalize decide (h.kind = 7 ∧ h.num < l.length) = tst at *
        generalize h.kind = kd at *
        generalize h.num = num at *
        clear hk n0 n6 e2 n5
        refine wp_region_plus (by kernel_rfl) (by kernel_rfl) ?_
        iterate 17 (go_big_quiet_step (fail))
        refine wpQuiet_nil ?_
        intro y
        clear n0' n6' e2'
        go_wp2
        go_meet
        case rel => exact ⟨by rw [HF.out], plus_ext w y⟩
      · have q1 : (h.kind == 7) = true := by simpa using hk
        have HF : Hid (decide (h.kind = 7 ∧ h.num < l.length) = false) := Lib.hid (decide_eq_false (fun e => hlt e.2))
        generalize decide (h.kind = 7 ∧ h.num < l.length) = tst at *
        generalize h.kind = kd at *
        generalize h.num = num at *
        clear hk n0 n6 e2 n5
        refine wp_region_plus (by kernel_rfl) (by kernel_rfl) ?_
        iterate 17 (go_big_quiet_step (fail))
        refine wpQuiet_nil ?_
        intro y
        clear n0' n6' e2'
        go_wp2
        go_meet
        case rel => exact ⟨by rw [HF.out], plus_ext w y⟩
    · have q1 : (h.kind == 7) = false := by rw [beq_eq_false_iff_ne]; exact hk
      have HF : Hid (decide (h.kind = 7 ∧ h.num < l.length) = false) := Lib.hid (decide_eq_false (fun e => hk e.1))
      generalize decide (h.kind = 7 ∧ h.num < l.length) = tst at *
      generalize h.kind = kd at *
      generalize h.num = num at *
      clear hk n0 n6 e2 n5
      refine wp_region_plus (by kernel_rfl) (by kernel_rfl) ?_
      iterate 17 (go_big_quiet_step (fail))
      refine wpQuiet_nil ?_
      intro y
      clear n0' n6' e2'
      go_wp2
      go_meet
      case rel => exact ⟨by rw [HF.out], plus_ext w y⟩
  obtain ⟨rfl, hx1⟩ := hcut
  obtain ⟨w1, hw1⟩ : ∃ w, w = wc := ⟨_, rfl⟩
  subst hw1
  have HX1 := Lib.hid hx1
  have hO1 := OwnR.ext HO.out hx1
  have HO1 := Lib.hid hO1
  replace n6 := hx1.cell n6
  replace n5 := hx1.cell n5
  replace e2 := hx1.cell e2
  clear hO1 hx1 n0 n0' n6' e2'
  go_step
  go_cut [21] (fun _ wx => OwnSp wx B (.slice (some ⟨g, 0, none⟩) l.length c) l1 ∧ Keeps (· = g) w1 wx)
  case first =>
    by_cases ht : h.kind = 7 ∧ h.num < l.length
    · rw [decide_eq_true ht]
      obtain ⟨j, hj⟩ := Int.eq_ofNat_of_zero_le (HNUM.out ht.1)
      have hjl : j < l.length := by have := ht.2; omega
      have HL2 : Hid (l1 = l.set j (-1, -1)) := Lib.hid (by rw [HL1.out, if_pos ht, hj, Int.toNat_natCast])
      rw [hj] at n6
      clear ht hj HL1 HNUM
      go_upto_region 1 with fail
      have n6' := cell_plus n6
      have e2' := cell_plus e2
      refine wp_region_plus_tail 10 (by kernel_rfl) (by kernel_rfl) ?_
      simp only [List.take_succ_cons, List.take_zero, List.drop_succ_cons, List.drop_zero]
      iterate 10 (go_big_quiet_step (fail))
      refine wpQuiet_nil ?_
      intro y
      have hO2 := OwnR.ext HO1.out (plus_ext w1 y)
      clear n6' e2' n6 e2 n5
      go_wp2_with (refine wpl_setSp rfl _ _ rfl rfl B g _ c l j (-1, -1) rfl rfl hO2 hjl ?_; intro w2 hO3 hk3)
      go_meet
      case rel => exact ⟨by rw [HL2.out]; exact hO3, (Keeps.of_ext (plus_ext w1 y)).trans hk3 (fun _ _ h => h)⟩
    · rw [decide_eq_false ht]
      have HL2 : Hid (l1 = l) := Lib.hid (by rw [HL1.out, if_neg ht])
      clear ht n6 e2 n5
      go_wp2
      go_meet
      case rel => exact ⟨by rw [HL2.out]; exact HO1.out, Keeps.refl _ _⟩
  obtain ⟨hO2, hk2⟩ := hcut
  obtain ⟨w2, hw2⟩ : ∃ w, w = wc := ⟨_, rfl⟩
  subst hw2
  have HO2 := Lib.hid hO2
  have hk02 : Keeps (· = g) w w2 := (Keeps.of_ext HX1.out).trans hk2 (fun _ _ h => h)
  have HK02 := Lib.hid hk02
  replace n5 := cell_keeps n5 hk2 htg
  have HN5 := Lib.hid n5
  clear hO2 hk2 hk02 n6 e2
  go_wp2
  go_loopw [37] (fun iv wr => ∃ k : Nat, k ≤ subs.length ∧ iv = .int .i64 k ∧ OwnSp wr B (.slice (some ⟨g, 0, none⟩) l.length c) (unsetL (subs.take k) l1) ∧ Keeps (· = g) w2 wr) (fun iv _ => subs.length - (intOf iv).toNat)
  case atStart => exact ⟨0, Nat.zero_le _, rfl, by rw [List.take_zero, unsetL]; exact HO2.out, Keeps.refl _ _⟩
  case round =>
    obtain ⟨k, hk, rfl, ho, hK⟩ := hrel
    obtain ⟨w3, hw3⟩ : ∃ w, w = wr := ⟨_, rfl⟩
    subst hw3
    have hk3 : Keeps (· = g) w w3 := HK02.out.trans hK (fun _ _ h => h)
    have n5w := cell_keeps HN5.out hK htg
    by_cases hlt : k < subs.length
    · have q9 : (k : Int) < (subs.length : Int) := by omega
      obtain ⟨g0, o0, sv0, rfl, hat, hok⟩ := HNS.out.get k hlt
      have hx3 : Ext W w3 := HX.out.keeps hk3 (fun i h1 h2 => by have h3 : i = g := h2; omega)
      have hat0 : NdAt W g0 (o0 + k * 10) (subs[k]).h sv0 := fun i hi => by have := hat i hi; rwa [Nat.zero_add] at this
      have hg0 : g0 < W.heap.size := World.block_lt_of_cell? W ⟨g0, o0 + k * 10 + 0, none⟩ (hat0 0 (by decide))
      have hlk : (unsetL (subs.take k) l1).length = l.length := by rw [unsetL_len, HLL.out]
      have HC := Lib.hid (HIH.out subs[k] (List.getElem_mem hlt) sv0 x W w3 B ge nw g l.length c g0 (o0 + k * 10) (unsetL (subs.take k) l1) hok (hat0.ext hx3) (by omega) hge (HSUB.out _ (List.getElem_mem hlt)) (smallL_mem HSM.out _ (List.getElem_mem hlt)) hx3 hg (HE.out.keeps hk3 hge) ho)
      have hst := unsetL_snoc (subs.take k) subs[k] l1
      rw [← take_snoc subs k hlt] at hst
      rw [← hst] at HC
      have HKW := Lib.hid hK
      clear hst hlk hat hat0 hok hx3 hk3 hK ho n5
      have n5 := n5w
      clear n5w
      go_wp2_with (go_at_call 73; refine HC.out.mono ?_; rintro e w4 ⟨rfl, ho4, hk4⟩)
      go_roundw
      case rel => exact ⟨k + 1, hlt, by go_num, ho4, HKW.out.trans hk4 (fun _ _ h => h)⟩
      case measure => simp [intOf]; omega
    · have q9 : ¬ (k : Int) < (subs.length : Int) := by omega
      rw [List.take_of_length_le (by omega), ← HUN.out] at ho
      have HO4 := Lib.hid ho
      have HK4 := Lib.hid hk3
      clear ho hk3 hK n5w n5
      go_wp2
      go_end0
      exact ⟨rfl, HO4.out, HK4.out⟩

end Go.Proofs.YtgfknlkpdiejgaaGreatDoor

namespace Go.Proofs.YtgfknlkpdiejgaaGreatDoor
open Classical

/-- The greatest one up to h of which Q holds (0: none). -/
noncomputable def topN (Q : Nat → Prop) : Nat → Nat
  | 0 => 0
  | h + 1 => if Q (h + 1) then h + 1 else topN Q h
theorem topN_spec (Q : Nat → Prop) : ∀ h k, k ≤ h → Q k → Q (topN Q h) ∧ k ≤ topN Q h ∧ topN Q h ≤ h
  | 0, k, hk, hq => by
    obtain rfl : k = 0 := by omega
    exact ⟨hq, Nat.le_refl _, Nat.le_refl _⟩
  | h + 1, k, hk, hq => by
    rw [topN]
    split
    · rename_i h1
      exact ⟨h1, hk, Nat.le_refl _⟩
    · rename_i h1
      have hne : k ≠ h + 1 := fun e => h1 (e ▸ hq)
      obtain ⟨a, b, c⟩ := topN_spec Q h k (by omega) hq
      exact ⟨a, b, by omega⟩
theorem topN_eq {Q : Nat → Prop} {h k : Nat} (hk : k ≤ h) (hq : Q k) (hm : ∀ j, j ≤ h → Q j → j ≤ k) : topN Q h = k := by
  obtain ⟨a, b, c⟩ := topN_spec Q h k hk hq
  have := hm _ c a
  omega
/-- The cut of a piece: the first part as long as it may be. -/
noncomputable def cutK (R S : Rl) (least a b : Nat) : Nat := topN (fun k => least ≤ k ∧ R a k ∧ S k b) b
theorem cutK_spec {n : Nat} {R S : Rl} (hS : Mon n S) {least a b : Nat} (h : ∃ k : Int, (least : Int) ≤ k ∧ R a k ∧ S k b) :
    least ≤ cutK R S least a b ∧ R a (cutK R S least a b) ∧ S (cutK R S least a b) b ∧ cutK R S least a b ≤ b ∧ ∀ j : Nat, least ≤ j → R a j → S j b → j ≤ cutK R S least a b := by
  obtain ⟨k, h1, h2, h3⟩ := h
  have h4 := (hS k b h3).1
  have hk : (k.toNat : Int) = k := Int.toNat_of_nonneg (by omega)
  obtain ⟨⟨p1, p2, p3⟩, p4, p5⟩ := topN_spec (fun k => least ≤ k ∧ R a k ∧ S k b) b k.toNat (by omega) ⟨by omega, by rw [hk]; exact h2, by rw [hk]; exact h3⟩
  exact ⟨p1, p2, p3, p5, fun j q1 q2 q3 => (topN_spec (fun k => least ≤ k ∧ R a k ∧ S k b) b j (by have := (hS j b q3).1; omega) ⟨q1, q2, q3⟩).2.1⟩
/-- The rounds of a repeat. -/
noncomputable def rndsR (f : Nat → Nat → Ps) (R : Rl) : Nat → Int → Int → Nat → Nat → List Ps
  | 0, _, _, _, _ => []
  | g + 1, mn, mx, a, b => if a < b ∨ 0 < mn then
      f a (cutK R (rpR R (max (mn - 1) 0) (if 0 < mx then mx - 1 else mx)) (if mn = 0 then a + 1 else a) a b) ::
        rndsR f R g (max (mn - 1) 0) (if 0 < mx then mx - 1 else mx) (cutK R (rpR R (max (mn - 1) 0) (if 0 < mx then mx - 1 else mx)) (if mn = 0 then a + 1 else a) a b) b
    else []
noncomputable def repR (f : Nat → Nat → Ps) (R : Rl) (bare : Bool) (mn mx : Int) (a b : Nat) : List Ps :=
  if mx = 0 then [] else if a = b ∧ mn = 0 then (if bare = false ∧ R a b then [f a b] else []) else rndsR f R (mn.toNat + (b - a)) mn mx a b
section
variable (L : Hd → Int → Int → Bool)
noncomputable def pickA : List Nd → Nat → Nat → Nat
  | [], _, _ => 0
  | n :: r, a, b => if tkN L n a b then 0 else pickA r a b + 1
mutual
noncomputable def bestN : Nd → Nat → Nat → Ps
  | .mk h subs, a, b => .mk ⟨a, b, if h.kind = 6 then (pickA L subs a b : Nat) else 0⟩
      (if h.kind = 6 ∨ h.kind = 7 then [bestA subs a b] else if h.kind = 5 then bestS subs a b
        else if h.kind = 8 then repR (fun x y => bestA subs x y) (fun x y => tkA L subs x y) h.bare h.min h.max a b else [])
noncomputable def bestA : List Nd → Nat → Nat → Ps
  | [], a, b => .mk ⟨a, b, 0⟩ []
  | n :: r, a, b => if tkN L n a b then bestN n a b else bestA r a b
noncomputable def bestS : List Nd → Nat → Nat → List Ps
  | [], _, _ => []
  | n :: r, a, b => bestN n a (cutK (tkN L n) (tkS L r) a a b) :: bestS r (cutK (tkN L n) (tkS L r) a a b) b
end
end

/-! ### a repeat, split behind its first round -/
theorem pw_some {R : Rl} {n : Nat} (hR : Mon n R) : ∀ (K : Nat) (a b : Int), pw R K a b → a < b → ∃ k K', a < k ∧ R a k ∧ pw R K' k b ∧ K' < K
  | 0, a, b, h, hab => by
    have : a = b := h
    omega
  | K + 1, a, b, ⟨c, h1, h2⟩, hab => by
    have h3 := (hR a c h1).1
    rcases Int.lt_or_eq_of_le h3 with h4 | h4
    · exact ⟨c, K, h4, h1, h2, Nat.lt_succ_self _⟩
    · subst h4
      obtain ⟨k, K', q1, q2, q3, q4⟩ := pw_some hR K a b h2 hab
      exact ⟨k, K', q1, q2, q3, by omega⟩
theorem rp_split {R : Rl} {n : Nat} (hR : Mon n R) {mn mx : Int} {a b : Nat} (h0 : 0 ≤ mn) (h1 : -1 ≤ mx) (h : rpR R mn mx a b) (hab : a < b ∨ 0 < mn) :
    ∃ k : Int, ((if mn = 0 then a + 1 else a : Nat) : Int) ≤ k ∧ R a k ∧ rpR R (max (mn - 1) 0) (if 0 < mx then mx - 1 else mx) k b := by
  obtain ⟨K, k1, k2, k3⟩ := h
  by_cases hm : mn = 0
  · obtain ⟨k, K', q1, q2, q3, q4⟩ := pw_some hR K a b k3 (by omega)
    refine ⟨k, by rw [if_pos hm]; omega, q2, K', by omega, ?_, q3⟩
    split <;> omega
  · cases K with
    | zero => omega
    | succ K =>
      obtain ⟨c, q1, q2⟩ := k3
      refine ⟨c, by rw [if_neg hm]; exact (hR a c q1).1, q1, K, by omega, ?_, q2⟩
      split <;> omega
/-- Rows that lie one behind the other from a to b, each of which does what P says. -/
def chain (P : Ps → Nat → Nat → Prop) : List Ps → Nat → Nat → Prop
  | [], a, b => a = b
  | p :: r, a, b => ∃ k, P p a k ∧ a ≤ k ∧ chain P r k b
theorem rnds_chain {R : Rl} {n : Nat} (hR : Mon n R) {f : Nat → Nat → Ps} (P : Ps → Nat → Nat → Prop) (hf : ∀ a b : Nat, R a b → P (f a b) a b) :
    ∀ (g : Nat) (mn mx : Int) (a b : Nat), 0 ≤ mn → -1 ≤ mx → (mx = 0 → mn = 0 ∧ a = b) → mn.toNat + (b - a) ≤ g → rpR R mn mx a b → a ≤ b →
      chain P (rndsR f R g mn mx a b) a b ∧ mn ≤ (rndsR f R g mn mx a b).length ∧ (mx < 0 ∨ ((rndsR f R g mn mx a b).length : Int) ≤ mx)
  | 0, mn, mx, a, b, h0, h1, hz, hg, h, hab => by
    rw [rndsR]
    refine ⟨by show a = b; omega, by simp only [List.length_nil]; omega, ?_⟩
    simp only [List.length_nil]
    omega
  | g + 1, mn, mx, a, b, h0, h1, hz, hg, h, hab => by
    rw [rndsR]
    split
    · rename_i hc
      have hsp := rp_split hR h0 h1 h hc
      have hM := hR.rp (max (mn - 1) 0) (if 0 < mx then mx - 1 else mx)
      obtain ⟨c1, c2, c3, c4, _⟩ := cutK_spec hM hsp
      generalize cutK R (rpR R (max (mn - 1) 0) (if 0 < mx then mx - 1 else mx)) (if mn = 0 then a + 1 else a) a b = k at *
      have hak := (hR a k c2).1
      have hz' : (if 0 < mx then mx - 1 else mx) = 0 → max (mn - 1) 0 = 0 ∧ k = b := fun e => by
        rw [e] at c3
        obtain ⟨K, k1, k2, k3⟩ := c3
        have : K = 0 := by omega
        subst this
        have hkb : (k : Int) = (b : Int) := k3
        omega
      obtain ⟨r1, r2, r3⟩ := rnds_chain hR P hf g (max (mn - 1) 0) (if 0 < mx then mx - 1 else mx) k b (by omega) (by split <;> omega) hz' (by split at c1 <;> omega) c3 (by omega)
      refine ⟨⟨k, hf a k c2, by omega, r1⟩, by rw [List.length_cons]; omega, ?_⟩
      rw [List.length_cons]
      have h9 : ((if 0 < mx then mx - 1 else mx) = mx - 1 ∧ 0 < mx) ∨ ((if 0 < mx then mx - 1 else mx) = mx ∧ ¬ 0 < mx) := by
        split
        · rename_i h; exact .inl ⟨rfl, h⟩
        · rename_i h; exact .inr ⟨rfl, h⟩
      clear hsp hz' c1 r1
      generalize (if 0 < mx then mx - 1 else mx) = mx' at *
      omega
    · rename_i hc
      refine ⟨by show a = b; omega, by simp only [List.length_nil]; omega, ?_⟩
      simp only [List.length_nil]
      omega
/-- Behind the least number of rounds none is empty. -/
theorem rnds_full {R : Rl} {n : Nat} (hR : Mon n R) {f : Nat → Nat → Ps} (hf : ∀ a b : Nat, (f a b).d.a = a ∧ (f a b).d.b = b) :
    ∀ (g : Nat) (mn mx : Int) (a b : Nat), 0 ≤ mn → -1 ≤ mx → (mx = 0 → mn = 0 ∧ a = b) → rpR R mn mx a b → a ≤ b → fullL ((rndsR f R g mn mx a b).drop mn.toNat) = true
  | 0, mn, mx, a, b, _, _, _, _, _ => by rw [rndsR, List.drop_nil]; rfl
  | g + 1, mn, mx, a, b, h0, h1, hz, h, hab => by
    rw [rndsR]
    split
    · rename_i hc
      have hsp := rp_split hR h0 h1 h hc
      have hM := hR.rp (max (mn - 1) 0) (if 0 < mx then mx - 1 else mx)
      obtain ⟨c1, c2, c3, c4, _⟩ := cutK_spec hM hsp
      generalize cutK R (rpR R (max (mn - 1) 0) (if 0 < mx then mx - 1 else mx)) (if mn = 0 then a + 1 else a) a b = k at *
      have hz' : (if 0 < mx then mx - 1 else mx) = 0 → max (mn - 1) 0 = 0 ∧ k = b := fun e => by
        rw [e] at c3
        obtain ⟨K, k1, k2, k3⟩ := c3
        have : K = 0 := by omega
        subst this
        have hkb : (k : Int) = (b : Int) := k3
        omega
      have ih := rnds_full hR hf g (max (mn - 1) 0) (if 0 < mx then mx - 1 else mx) k b (by omega) (by split <;> omega) hz' c3 (by omega)
      by_cases hm : mn = 0
      · subst hm
        rw [show (max ((0 : Int) - 1) 0).toNat = 0 from rfl, List.drop_zero] at ih
        rw [show (0 : Int).toNat = 0 from rfl, List.drop_zero]
        rw [if_pos rfl] at c1
        unfold fullL at ih ⊢
        rw [List.all_cons, Bool.and_eq_true]
        refine ⟨?_, ih⟩
        rw [decide_eq_true_eq, (hf a k).1, (hf a k).2]
        omega
      · obtain ⟨j, hj⟩ : ∃ j, mn.toNat = j + 1 := ⟨mn.toNat - 1, by omega⟩
        rw [hj, List.drop_succ_cons]
        rw [show (max (mn - 1) 0).toNat = j by omega] at ih
        exact ih
    · rw [List.drop_nil]; rfl

/-! ### it is a parse -/
section
variable {n : Nat} {L L0 : Hd → Int → Int → Bool}
/-- A parse of the tree over the piece. -/
def IsP (n : Nat) (L0 : Hd → Int → Int → Bool) (t : Nd) (p : Ps) (a b : Nat) : Prop := parseN n L0 p t = true ∧ p.d.a = a ∧ p.d.b = b
theorem chain_row {t : Nd} : ∀ (ps : List Ps) (a b : Nat), chain (IsP n L0 t) ps a b → rowN n L0 ps (List.replicate ps.length t) a b = true
  | [], a, b, h => by
    rw [show a = b from h]
    simp [rowN]
  | p :: r, a, b, ⟨k, ⟨h1, h2, h3⟩, _, h4⟩ => by
    rw [List.length_cons, List.replicate_succ, rowN, h1, h2, h3, chain_row r k b h4]
    simp
theorem best_d (t : Nd) (a b : Nat) : (bestN L t a b).d.a = a ∧ (bestN L t a b).d.b = b := by
  cases t with
  | mk h subs => rw [bestN]; exact ⟨rfl, rfl⟩
theorem bestA_d : ∀ (l : List Nd) (a b : Nat), (bestA L l a b).d.a = a ∧ (bestA L l a b).d.b = b
  | [], a, b => by rw [bestA]; exact ⟨rfl, rfl⟩
  | t :: r, a, b => by
    rw [bestA]
    split
    · exact best_d t a b
    · exact bestA_d r a b
theorem bestA_pick : ∀ (l : List Nd) (a b : Nat), tkA L l a b → ∃ h : pickA L l a b < l.length, bestA L l a b = bestN L l[pickA L l a b] a b ∧ tkN L l[pickA L l a b] a b
  | [], a, b, h => by rw [tkA] at h; exact h.elim
  | t :: r, a, b, h => by
    by_cases ht : tkN L t a b
    · have e : pickA L (t :: r) a b = 0 := by rw [pickA, if_pos ht]
      refine ⟨by rw [e]; simp, ?_⟩
      simp only [e]
      rw [bestA, if_pos ht]
      exact ⟨rfl, ht⟩
    · rw [tkA] at h
      obtain ⟨h1, h2, h3⟩ := bestA_pick r a b (h.resolve_left ht)
      have e : pickA L (t :: r) a b = pickA L r a b + 1 := by rw [pickA, if_neg ht]
      refine ⟨by rw [e, List.length_cons]; omega, ?_⟩
      simp only [e]
      rw [bestA, if_neg ht]
      exact ⟨h2, h3⟩
end

/-! ### the whole -/
section
variable {n : Nat} {L L0 : Hd → Int → Int → Bool}
/-- A tree's best parse is a parse. -/
def OkT (n : Nat) (L L0 : Hd → Int → Int → Bool) (t : Nd) : Prop := ∀ a b : Nat, tkN L t a b → b ≤ n → parseN n L0 (bestN L t a b) t = true
theorem bestS_row (hL : LOk n L) : ∀ (l : List Nd) (a b : Nat), (∀ t ∈ l, OkT n L L0 t) → tkS L l a b → b ≤ n → rowN n L0 (bestS L l a b) l a b = true ∧ (bestS L l a b).length = l.length
  | [], a, b, _, ht, _ => by
    rw [tkS] at ht
    rw [bestS, rowN]
    exact ⟨by simpa using ht, rfl⟩
  | t :: r, a, b, IH, ht, hb => by
    rw [tkS] at ht
    obtain ⟨c, h1, h2⟩ := ht
    have hac := (tkN_mon hL t a c h1).1
    obtain ⟨c1, c2, c3, c4, _⟩ := cutK_spec (R := tkN L t) (S := tkS L r) (tkS_mon hL r) (least := a) (a := a) (b := b) ⟨c, hac, h1, h2⟩
    rw [bestS]
    generalize cutK (tkN L t) (tkS L r) a a b = k at *
    obtain ⟨h3, h4⟩ := bestS_row hL r k b (fun t ht => IH t (List.mem_cons_of_mem _ ht)) c3 hb
    have h5 := IH t (List.mem_cons_self ..) a k c2 (by omega)
    obtain ⟨d1, d2⟩ := best_d (L := L) t a k
    rw [rowN, h5, d1, d2, h3]
    exact ⟨by simp, by rw [List.length_cons, List.length_cons, h4]⟩
theorem bestA_one (s0 : Nd) (a b : Nat) (h : tkN L s0 a b) : bestA L [s0] a b = bestN L s0 a b := by
  rw [bestA, if_pos h]
theorem best_rep (hL : LOk n L) (h : Hd) (s0 : Nd) (hmn : 0 ≤ h.min) (hm1 : -1 ≤ h.max) (IH : OkT n L L0 s0) (a b : Nat) (hab : a ≤ b) (ht : rpR (tkN L s0) h.min h.max a b) (hb : b ≤ n) :
    admB h ⟨a, b, 0⟩ (repR (fun x y => bestA L [s0] x y) (fun x y => tkA L [s0] x y) h.bare h.min h.max a b) = true ∧
      rowN n L0 (repR (fun x y => bestA L [s0] x y) (fun x y => tkA L [s0] x y) h.bare h.min h.max a b) (List.replicate (repR (fun x y => bestA L [s0] x y) (fun x y => tkA L [s0] x y) h.bare h.min h.max a b).length s0) a b = true := by
  have eR : (fun x y => tkA L [s0] x y) = tkN L s0 := by funext x y; exact propext (tkA_one L s0 x y)
  rw [eR]
  have hP : ∀ x y : Nat, tkN L s0 x y → y ≤ n → IsP n L0 s0 (bestA L [s0] x y) x y := fun x y h1 h2 => by
    rw [bestA_one s0 x y h1]
    exact ⟨IH x y h1 h2, (best_d s0 x y).1, (best_d s0 x y).2⟩
  have hM := tkN_mon hL s0
  unfold repR
  by_cases h0 : h.max = 0
  · rw [if_pos h0]
    obtain ⟨K, k1, k2, k3⟩ := ht
    have hK : K = 0 := by omega
    subst hK
    have e : (a : Int) = (b : Int) := k3
    refine ⟨?_, by rw [List.length_nil, List.replicate_zero, rowN]; simpa using e⟩
    unfold admB
    simp only [List.length_nil, List.drop_nil]
    rw [if_neg (by omega)]
    simp [fullL]
    omega
  rw [if_neg h0]
  by_cases h1 : a = b ∧ h.min = 0
  · rw [if_pos h1]
    obtain ⟨rfl, hm0⟩ := h1
    by_cases h2 : h.bare = false ∧ tkN L s0 a a
    · rw [if_pos h2]
      obtain ⟨p1, p2, p3⟩ := hP a a h2.2 hb
      refine ⟨?_, by rw [List.length_singleton, List.replicate_succ, List.replicate_zero, rowN_one, p1, p2, p3]; simp⟩
      unfold admB
      rw [hm0, h2.1]
      simp
      omega
    · rw [if_neg h2]
      refine ⟨?_, by simp [rowN]⟩
      unfold admB
      rw [hm0]
      simp [fullL]
      omega
  rw [if_neg h1]
  -- the rounds: their ends lie in the subject
  have hP2 : ∀ x y : Nat, (tkN L s0 x y) → (y ≤ n → IsP n L0 s0 (bestA L [s0] x y) x y) := hP
  obtain ⟨r1, r2, r3⟩ := rnds_chain hM (f := fun x y => bestA L [s0] x y) (fun p x y => y ≤ n → IsP n L0 s0 p x y) hP2 (h.min.toNat + (b - a)) h.min h.max a b hmn hm1 (fun e => absurd e h0) (Nat.le_refl _) ht hab
  have hfull := rnds_full hM (f := fun x y => bestA L [s0] x y) (fun x y => bestA_d [s0] x y) (h.min.toNat + (b - a)) h.min h.max a b hmn hm1 (fun e => absurd e h0) ht hab
  generalize rndsR (fun x y => bestA L [s0] x y) (tkN L s0) (h.min.toNat + (b - a)) h.min h.max a b = ps at *
  have hch : ∀ (ps : List Ps) (x : Nat), chain (fun p x y => y ≤ n → IsP n L0 s0 p x y) ps x b → x ≤ b ∧ chain (IsP n L0 s0) ps x b := by
    intro ps
    induction ps with
    | nil => intro x h; exact ⟨Nat.le_of_eq h, h⟩
    | cons p r ih =>
      rintro x ⟨k, q1, q2, q3⟩
      obtain ⟨i1, i2⟩ := ih k q3
      exact ⟨by omega, k, q1 (by omega), q2, i2⟩
  refine ⟨?_, chain_row ps a b (hch ps a r1).2⟩
  unfold admB
  rw [if_neg (by rintro ⟨e1, _, e3⟩; simp only at e3; exact h1 ⟨by omega, e1⟩), hfull]
  simp
  omega
theorem best_ok (hL : LOk n L) (hLL : ∀ h a b, L h a b = true → L0 h a b = true) : ∀ t : Nd, formB t = true → OkT n L L0 t := Nd.ind fun h subs ih hf a b ht hb => by
  have hab := ((tkN_mon hL (.mk h subs)) a b ht).1
  have hcase := form_cases hf
  have hsub := form_sub hf
  have IH : ∀ t ∈ subs, OkT n L L0 t := fun t ht => ih t ht (hsub t ht)
  have hg : ∀ k : Int, (k = 0 ∨ h.kind = 6) → guardP n h.kind ⟨a, b, k⟩ = true := fun k hk => by
    unfold guardP
    simp only [Bool.and_eq_true, Bool.or_eq_true, decide_eq_true_eq]
    exact ⟨⟨⟨by omega, by omega⟩, by omega⟩, hk⟩
  rw [bestN, parseN]
  by_cases k6 : h.kind = 6
  · rw [if_pos k6, if_pos (show h.kind = 6 ∨ h.kind = 7 from .inl k6), hg _ (.inr k6), if_pos (show 5 ≤ h.kind by omega)]
    obtain ⟨p1, p2, p3⟩ := bestA_pick subs a b ((tk_alt h subs k6 a b).1 ht)
    have hd := bestA_d (L := L) subs a b
    have hp := IH _ (List.getElem_mem p1) a b p3 hb
    unfold okB ndsOf
    rw [if_pos k6, if_pos k6]
    simp only [List.length_singleton, Int.toNat_natCast]
    rw [rowN_one, hd.1, hd.2, List.getD_eq_getElem?_getD, List.getElem?_eq_getElem p1, p2]
    simp only [Option.getD_some]
    rw [hp]
    simp
    omega
  by_cases k7 : h.kind = 7
  · rw [if_neg k6, if_pos (show h.kind = 6 ∨ h.kind = 7 from .inr k7), hg _ (.inl rfl), if_pos (show 5 ≤ h.kind by omega)]
    obtain ⟨s0, rfl⟩ := List.length_eq_one_iff.1 (show subs.length = 1 by omega)
    have ht' := (tk_group h s0 k7 a b).1 ht
    have hp := IH s0 (by simp) a b ht' hb
    have hd := best_d (L := L) s0 a b
    unfold okB ndsOf
    rw [if_neg k6, if_pos k7, if_neg k6, if_neg (by omega), bestA_one s0 a b ht', rowN_one, hd.1, hd.2, hp]
    simp
  by_cases k5 : h.kind = 5
  · rw [if_neg k6, if_neg (show ¬ (h.kind = 6 ∨ h.kind = 7) by omega), if_pos k5, hg _ (.inl rfl), if_pos (show 5 ≤ h.kind by omega)]
    obtain ⟨h1, h2⟩ := bestS_row hL subs a b IH ((tk_seq h subs k5 a b).1 ht) hb
    unfold okB ndsOf
    rw [if_neg k6, if_neg k7, if_pos k5, if_neg k6, if_neg (by omega), h1, h2]
    simp
  by_cases k8 : h.kind = 8
  · rw [if_neg k6, if_neg (show ¬ (h.kind = 6 ∨ h.kind = 7) by omega), if_neg k5, if_pos k8, hg _ (.inl rfl), if_pos (show 5 ≤ h.kind by omega)]
    obtain ⟨s0, rfl⟩ := List.length_eq_one_iff.1 (show subs.length = 1 by omega)
    obtain ⟨h1, h2⟩ := best_rep hL h s0 (by omega) (by omega) (IH s0 (by simp)) a b (by omega) ((tk_rep h s0 k8 a b).1 ht) hb
    unfold okB ndsOf
    rw [if_neg k6, if_neg k7, if_neg k5, if_neg k6, if_pos k8]
    rw [h1]
    simp only [List.getD_cons_zero]
    rw [h2]
    rfl
  · rw [if_neg k6, if_neg (show ¬ (h.kind = 6 ∨ h.kind = 7) by omega), if_neg k5, if_neg k8, hg _ (.inl rfl), if_neg (show ¬ 5 ≤ h.kind by omega), hLL h a b ((leaf_img h subs (by omega) a b).1 ht)]
    rfl
end

end Go.Proofs.YtgfknlkpdiejgaaGreatDoor
