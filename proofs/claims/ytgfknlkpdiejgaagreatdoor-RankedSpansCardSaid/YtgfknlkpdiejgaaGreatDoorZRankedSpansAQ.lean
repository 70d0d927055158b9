/- rank.walk as a contract: the spans by a parse of a right tree are laid. Condition: tree and parse lie in memory, the parse is one of the tree. engine.lay as a contract: the spans by the best parse are laid. Conditions: the engine, its spans, the scene and the tree lie in memory, the spans in a block of their own; the tree is in form and takes the piece. engine.lay at an Alt: the first tree that takes the piece is laid. Conditions: as Lay's. engine.lay at a Seq: each piece as long as it may be. Conditions: as Lay's. -/
import Derived.Test.YtgfknlkpdiejgaaGreatDoorZRankedSpansAL
import Derived.Test.YtgfknlkpdiejgaaGreatDoorZRankedSpansAP
import Derived.Test.YtgfknlkpdiejgaaGreatDoorZRankedSpansAD
namespace Go.Proofs.YtgfknlkpdiejgaaGreatDoor
open Go Go.RowKit

def setS (num : Int) (x : Int × Int) (l : List (Int × Int)) : List (Int × Int) := if num < l.length then l.set num.toNat x else l
mutual
def walkN : Ps → Nd → List (Int × Int) → List (Int × Int)
  | .mk d ps, .mk h subs, l => walkR ps (ndsOf h subs d ps.length) (if h.kind = 7 then setS h.num (d.a, d.b) (unsetL subs l) else l)
def walkR : List Ps → List Nd → List (Int × Int) → List (Int × Int)
  | [], _, l => l
  | _ :: _, [], l => l
  | p :: r, n :: nr, l => walkR r nr (walkN p n l)
end
theorem setS_len (num : Int) (x : Int × Int) (l : List (Int × Int)) : (setS num x l).length = l.length := by unfold setS; split <;> simp
theorem walkR_app : ∀ (a : List Ps) (a' : List Nd) (b : List Ps) (b' : List Nd) (l : List (Int × Int)), a.length = a'.length → walkR (a ++ b) (a' ++ b') l = walkR b b' (walkR a a' l)
  | [], [], _, _, _, _ => by simp [walkR]
  | p :: a, n :: a', b, b', l, h => by
    show walkR (p :: (a ++ b)) (n :: (a' ++ b')) l = _
    rw [walkR, walkR, walkR_app a a' b b' _ (by simpa using h)]
  | [], _ :: _, _, _, _, h => by cases h
  | _ :: _, [], _, _, _, h => by cases h
theorem walkR_step {ps : List Ps} {nds : List Nd} {k : Nat} (h : k < ps.length) (h' : k < nds.length) (l : List (Int × Int)) : walkR (ps.take (k + 1)) (nds.take (k + 1)) l = walkN ps[k] nds[k] (walkR (ps.take k) (nds.take k) l) := by
  rw [take_snoc ps k h, take_snoc nds k h', walkR_app _ _ _ _ _ (by simp; omega), walkR, walkR]
theorem walkR_done {ps : List Ps} {nds : List Nd} (h : ps.length = nds.length) (l : List (Int × Int)) : walkR (ps.take ps.length) (nds.take ps.length) l = walkR ps nds l := by
  rw [List.take_of_length_le (Nat.le_refl _), List.take_of_length_le (by omega)]
mutual
theorem walkN_len : ∀ (p : Ps) (n : Nd) (l : List (Int × Int)), (walkN p n l).length = l.length
  | .mk d ps, .mk h subs, l => by
    rw [walkN, walkR_len]
    split
    · rw [setS_len, unsetL_len]
    · rfl
theorem walkR_len : ∀ (ps : List Ps) (ns : List Nd) (l : List (Int × Int)), (walkR ps ns l).length = l.length
  | [], _, _ => by rw [walkR]
  | _ :: _, [], _ => by rw [walkR]
  | p :: r, n :: nr, l => by rw [walkR, walkR_len, walkN_len]
end
section
variable {sz : Int} {L : Hd → Int → Int → Bool}
theorem rowN_get : ∀ (ps : List Ps) (nds : List Nd) (a b : Int), rowN sz L ps nds a b = true → ∀ k (hk : k < ps.length), ∃ h' : k < nds.length, parseN sz L ps[k] nds[k] = true
  | [], _, _, _, _, k, hk => absurd hk (Nat.not_lt_zero _)
  | _ :: _, [], _, _, h, _, _ => by rw [rowN] at h; cases h
  | p :: r, n :: nr, a, b, h, k, hk => by
    rw [rowN, Bool.and_eq_true, Bool.and_eq_true] at h
    cases k with
    | zero => exact ⟨by simp, h.1.2⟩
    | succ k =>
      obtain ⟨h1, h2⟩ := rowN_get r nr _ b h.2 k (by simpa using hk)
      exact ⟨by simpa using h1, by simpa using h2⟩
theorem parse_inv {d : Pd} {ps : List Ps} {h : Hd} {subs : List Nd} (hp : parseN sz L (.mk d ps) (.mk h subs) = true) (hk : 5 ≤ h.kind) : okB h subs.length d ps = true ∧ rowN sz L ps (ndsOf h subs d ps.length) d.a d.b = true := by
  rw [parseN, Bool.and_eq_true, if_pos hk, Bool.and_eq_true] at hp
  exact hp.2
theorem parse_leaf {d : Pd} {ps : List Ps} {h : Hd} {subs : List Nd} (hp : parseN sz L (.mk d ps) (.mk h subs) = true) (hk : ¬ 5 ≤ h.kind) : ps = [] := by
  rw [parseN, Bool.and_eq_true, if_neg hk, Bool.and_eq_true, decide_eq_true_eq] at hp
  exact List.eq_nil_of_length_eq_zero hp.2.1
theorem Keeps.cellb {w w' : World} {g : Nat} (hk : Keeps (· = g) w w') {p : Addr} {v : Value} (h : w.cell? p = some v) (hg : p.block ≠ g) : w'.cell? p = some v := cell_keeps h hk hg
theorem own_ne {w : World} {B g nn c z : Nat} {l : List (Int × Int)} {t : TypeId} {cs : Array Value} (hO : OwnSp w B (.slice (some ⟨g, 0, none⟩) nn c) l) (hb : Blk w z t cs) (ht : t ≠ 52) : z ≠ g := fun e => by
  subst e
  rcases OwnR.slice hO with ⟨h0, _⟩ | ⟨g', cap, cur, hv, _, hB, _⟩
  · cases h0
  · simp only [Value.slice.injEq, Option.some.injEq, Addr.mk.injEq, and_true] at hv
    rw [← hv.1] at hB
    exact hb.ne hB ht rfl

end

end Go.Proofs.YtgfknlkpdiejgaaGreatDoor

namespace Go.Proofs.YtgfknlkpdiejgaaGreatDoor
open Go Go.RowKit

def LayOf (W : World) (x : Value) (s : ByteArray) (m : List UInt8) (nw ge g c B : Nat) (t : Nd) : Prop :=
  ∀ (svn : Value) (w : World) (l : List (Int × Int)) (a b tg tk : Nat), NdCap W t svn → NdAt w tg tk t.h svn → tg ≠ g → formB t = true → smallN t → Ext W w → EnSp w ge x nw g l.length c → OwnSp w B (.slice (some ⟨g, 0, none⟩) l.length c) l → tkN (lfM s m) t a b → b ≤ s.size →
    Calls Tryz.prog 55 #[.pointer (some ⟨ge, 0, none⟩), .pointer (some ⟨tg, tk, none⟩), .int .i64 a, .int .i64 b] w fun r w' => r = .returned (.tuple #[]) ∧ OwnSp w' B (.slice (some ⟨g, 0, none⟩) l.length c) (walkN (bestN (lfM s m) t a b) t l) ∧ Keeps (· = g) w w'
theorem Ext.keepG {W w w' : World} {g : Nat} (h : Ext W w) (hk : Keeps (· = g) w w') (hg : W.heap.size ≤ g) : Ext W w' := h.keeps hk (fun i h1 h2 => by have h3 : i = g := h2; omega)

section
variable {W : World} {x : Value} {s : ByteArray} {m : List UInt8} {nw ge g c B : Nat}
/-- A group. -/
theorem walk_group {h : Hd} {s0 : Nd} {a b : Nat} (hk : h.kind = 7) (ht : tkN (lfM s m) (.mk h [s0]) a b) (l : List (Int × Int)) :
    walkN (bestN (lfM s m) (.mk h [s0]) a b) (.mk h [s0]) l = walkN (bestN (lfM s m) s0 a b) s0 (setS h.num (a, b) (unsetN s0 l)) := by
  have e : bestA (lfM s m) [s0] a b = bestN (lfM s m) s0 a b := bestA_one s0 a b ((tk_group h s0 hk a b).1 ht)
  rw [bestN, walkN, if_pos (show h.kind = 6 ∨ h.kind = 7 from .inr hk), if_pos hk]
  unfold ndsOf
  rw [if_neg (by omega), if_neg (by omega), walkR, walkR, unsetL, unsetL, e]
theorem walk_leaf {h : Hd} {subs : List Nd} {a b : Nat} (hk : ¬ (5 ≤ h.kind)) (l : List (Int × Int)) : walkN (bestN (lfM s m) (.mk h subs) a b) (.mk h subs) l = l := by
  rw [bestN, walkN, if_neg (show ¬ (h.kind = 6 ∨ h.kind = 7) by omega), if_neg (show ¬ h.kind = 5 by omega), if_neg (show ¬ h.kind = 8 by omega), if_neg (show ¬ h.kind = 7 by omega), walkR]

set_option maxRecDepth 100000 in
set_option maxHeartbeats 8000000 in
/-- A node without subs. -/
theorem lay_leaf (h : Hd) (subs : List Nd) (hk : ¬ 5 ≤ h.kind) (h1 : 1 ≤ h.kind) : LayOf W x s m nw ge g c B (.mk h subs) := by
  intro svn w l a b tg tk hN hA htg hf hsm hx hE hO ht hb
  have n0 : w.cell? ⟨tg, tk, none⟩ = some (.int .i64 h.kind) := hA 0 (by decide)
  have HW := Lib.hid (walk_leaf (s := s) (m := m) (subs := subs) (a := a) (b := b) hk l)
  have HO := Lib.hid hO
  have hc : h.kind = 1 ∨ h.kind = 2 ∨ h.kind = 3 ∨ h.kind = 4 := by omega
  clear hN hA hf hsm hx hE hO ht hk h1
  rcases hc with hk | hk | hk | hk
  all_goals
    rw [hk] at n0
    clear hk
    go_enter Tryz.func55, Tryz.ntmps55
    go_wp2
    go_end0
    exact ⟨rfl, by rw [HW.out]; exact HO.out, Keeps.refl _ _⟩

set_option maxRecDepth 100000 in
set_option maxHeartbeats 8000000 in
/-- A group. -/
theorem lay_group (h : Hd) (s0 : Nd) (hk : h.kind = 7) (IH : LayOf W x s m nw ge g c B s0) (hge : ge ≠ g) (hg : W.heap.size ≤ g) : LayOf W x s m nw ge g c B (.mk h [s0]) := by
  intro svn w l a b tg tk hN hA htg hf hsm hx hE hO ht hb
  have hcase := form_cases hf
  have hf0 := form_sub hf s0 (by simp)
  have hsm0 := smallL_mem hsm.2 s0 (by simp)
  have ht0 := (tk_group h s0 hk a b).1 ht
  simp only [Nd.h] at hA
  have n0 : w.cell? ⟨tg, tk, none⟩ = some (.int .i64 h.kind) := hA 0 (by decide)
  have n5 : w.cell? ⟨tg, tk + 5, none⟩ = some svn := hA 5 (by decide)
  have n6 : w.cell? ⟨tg, tk + 6, none⟩ = some (.int .i64 h.num) := hA 6 (by decide)
  obtain ⟨SA, sc, rfl, _, hNs⟩ := hN
  obtain ⟨g0, o0, sv0, rfl, hat, hok⟩ := hNs.get 0 (by simp)
  simp only [List.getElem_cons_zero, Nat.zero_mul, Nat.add_zero, List.length_singleton] at hat hok n5
  have hatW : NdAt W g0 o0 s0.h sv0 := fun i hi => hat i hi
  have hg0 : g0 < W.heap.size := World.block_lt_of_cell? W ⟨g0, o0 + 0, none⟩ (hatW 0 (by decide))
  obtain ⟨j, hj⟩ := Int.eq_ofNat_of_zero_le (show 0 ≤ h.num by omega)
  have HWK := Lib.hid (walk_group hk ht l)
  have HUN := Lib.hid (unsetE_any s0 sv0 x W w B ge nw g l.length c g0 o0 l hok.ok (hatW.ext hx) (by omega) hge hf0 hsm0 hx hg hE hO)
  obtain ⟨l1, hl1⟩ : ∃ l1, l1 = unsetN s0 l := ⟨_, rfl⟩
  have hll1 : l1.length = l.length := by rw [hl1, unsetN_len]
  obtain ⟨l2, hl2⟩ : ∃ l2, l2 = setS h.num (a, b) l1 := ⟨_, rfl⟩
  have hll2 : l2.length = l.length := by rw [hl2, setS_len, hll1]
  have HL2 := Lib.hid hl2
  rw [← hl1] at HUN HWK
  rw [← hl2] at HWK
  have HLL1 := Lib.hid hll1
  have HLL2 := Lib.hid hll2
  have HIH := Lib.hid (fun w' (hx' : Ext W w') hE' hO' => IH sv0 w' l2 a b g0 o0 hok (hatW.ext hx') (by omega) hf0 hsm0 hx' hE' hO' ht0 hb)
  have HX := Lib.hid hx
  have HE := Lib.hid hE
  rw [hk] at n0
  rw [hj] at n6 HL2
  clear hcase hf hf0 hsm hsm0 ht ht0 hA hNs hat hok hatW hx hE hO hk hj hl1 hl2 hll1 hll2 IH
  go_enter Tryz.func55, Tryz.ntmps55
  go_upto_region 3 with (go_at_call 73; refine HUN.out.mono ?_; rintro e w1 ⟨rfl, hO1, hk1⟩)
  replace n6 := cell_keeps n6 hk1 htg
  have n5' := cell_keeps n5 hk1 htg
  have hE1 : EnSp w1 ge x nw g l.length c := HE.out.keeps hk1 hge
  have e2 : w1.cell? ⟨ge, 2, none⟩ = some (.slice (some ⟨g, 0, none⟩) l.length c) := hE1.cell 2
  have HO1 := Lib.hid hO1
  have HK1 := Lib.hid hk1
  have HE1 := Lib.hid hE1
  have HN5 := Lib.hid n5'
  have n6' := cell_plus n6
  have e2' := cell_plus e2
  clear n0 n5 n5' hO1 hk1 hE1 HUN
  go_cut [33] (fun v wx => v = .bool (decide ((j : Int) < (l.length : Int))) ∧ Ext w1 wx)
  case first =>
    clear n6 e2
    by_cases hlt : (j : Int) < (l.length : Int)
    · have HF : Hid (decide ((j : Int) < (l.length : Int)) = true) := Lib.hid (decide_eq_true hlt)
      refine wp_region_plus (by kernel_rfl) (by kernel_rfl) ?_
      iterate 10 (go_big_quiet_step (fail))
      refine wpQuiet_nil ?_
      intro y
      clear n6' e2'
      go_wp2
      go_meet
      case rel => exact ⟨by rw [HF.out], plus_ext w1 y⟩
    · have HF : Hid (decide ((j : Int) < (l.length : Int)) = false) := Lib.hid (decide_eq_false hlt)
      refine wp_region_plus (by kernel_rfl) (by kernel_rfl) ?_
      iterate 10 (go_big_quiet_step (fail))
      refine wpQuiet_nil ?_
      intro y
      clear n6' e2'
      go_wp2
      go_meet
      case rel => exact ⟨by rw [HF.out], plus_ext w1 y⟩
  obtain ⟨rfl, hx2⟩ := hcut
  obtain ⟨w2, hw2⟩ : ∃ w, w = wc := ⟨_, rfl⟩
  subst hw2
  have HO2 := Lib.hid (OwnR.ext HO1.out hx2)
  have HX2 := Lib.hid hx2
  replace n6 := hx2.cell n6
  replace e2 := hx2.cell e2
  clear hx2 n6' e2'
  go_step
  go_cut [33] (fun _ wx => OwnSp wx B (.slice (some ⟨g, 0, none⟩) l.length c) l2 ∧ Keeps (· = g) w2 wx)
  case first =>
    by_cases hlt : (j : Int) < (l.length : Int)
    · rw [decide_eq_true hlt]
      have hjl : j < l.length := by omega
      have hjl1 : j < l1.length := by rw [HLL1.out]; exact hjl
      have HL3 : Hid (l2 = l1.set j ((a : Int), (b : Int))) := Lib.hid (by rw [HL2.out]; unfold setS; rw [if_pos (by rw [HLL1.out]; exact hlt), Int.toNat_natCast])
      go_upto_region 4 with fail
      have n6' := cell_plus n6
      have e2' := cell_plus e2
      refine wp_region_plus_tail 12 (by kernel_rfl) (by kernel_rfl) ?_
      simp only [List.take_succ_cons, List.take_zero, List.drop_succ_cons, List.drop_zero]
      iterate 12 (go_big_quiet_step (fail))
      refine wpQuiet_nil ?_
      intro y
      have hO2 := OwnR.ext HO2.out (plus_ext w2 y)
      clear n6' e2' n6 e2
      go_wp2_with (refine wpl_setSp rfl _ _ rfl rfl B g _ c l1 j ((a : Int), (b : Int)) rfl rfl hO2 hjl1 ?_; intro w3 hO3 hk3)
      go_meet
      case rel => exact ⟨by rw [HL3.out]; exact hO3, (Keeps.of_ext (plus_ext w2 y)).trans hk3 (fun _ _ h => h)⟩
    · rw [decide_eq_false hlt]
      have HL3 : Hid (l2 = l1) := Lib.hid (by rw [HL2.out]; unfold setS; rw [if_neg (by rw [HLL1.out]; exact hlt)])
      clear n6 e2
      go_wp2
      go_meet
      case rel => exact ⟨by rw [HL3.out]; exact HO2.out, Keeps.refl _ _⟩
  obtain ⟨hO3, hk3⟩ := hcut
  obtain ⟨w3, hw3⟩ : ∃ w, w = wc := ⟨_, rfl⟩
  subst hw3
  have hk13 : Keeps (· = g) w1 w3 := (Keeps.of_ext HX2.out).trans hk3 (fun _ _ h => h)
  have hk03 : Keeps (· = g) w w3 := HK1.out.trans hk13 (fun _ _ h => h)
  have n5 := cell_keeps HN5.out hk13 htg
  have HC := Lib.hid (HIH.out w3 (HX.out.keepG hk03 hg) (by rw [HLL2.out]; exact HE1.out.keeps hk13 hge) (by rw [HLL2.out]; exact hO3))
  rw [HLL2.out] at HC
  have HK := Lib.hid hk03
  clear hO3 hk3 hk13 hk03 n6 e2
  go_wp2_with (go_at_call 55; refine HC.out.mono ?_; rintro e w4 ⟨rfl, hO4, hk4⟩)
  go_end0
  exact ⟨rfl, by rw [HWK.out]; exact hO4, HK.out.trans hk4 (fun _ _ h => h)⟩
end

end Go.Proofs.YtgfknlkpdiejgaaGreatDoor

namespace Go.Proofs.YtgfknlkpdiejgaaGreatDoor
open Go Go.RowKit

theorem img_one {R : Rl} {a b : Nat} : img R (oneP a) b = true ↔ R a b := by
  rw [img_iff]
  constructor
  · rintro ⟨i, h1, h2⟩; rw [one_iff.1 h1] at h2; exact h2
  · intro h; exact ⟨a, one_iff.2 rfl, h⟩
theorem pick_first {L : Hd → Int → Int → Bool} : ∀ (l : List Nd) (k a b : Nat) (hk : k < l.length), (∀ i (hi : i < k), ¬ tkN L (l[i]'(by omega)) a b) → tkN L l[k] a b → pickA L l a b = k ∧ bestA L l a b = bestN L l[k] a b
  | [], k, a, b, hk, _, _ => absurd hk (Nat.not_lt_zero _)
  | t :: r, 0, a, b, _, _, ht => by
    have ht' : tkN L t a b := ht
    rw [pickA, bestA, if_pos ht', if_pos ht']
    exact ⟨rfl, rfl⟩
  | t :: r, k + 1, a, b, hk, hn, ht => by
    have h0 : ¬ tkN L t a b := hn 0 (by omega)
    obtain ⟨h1, h2⟩ := pick_first r k a b (by simpa using hk) (fun i hi => hn (i + 1) (by omega)) ht
    rw [pickA, bestA, if_neg h0, if_neg h0, h1, h2]
    exact ⟨rfl, rfl⟩
theorem walk_alt {L : Hd → Int → Int → Bool} {h : Hd} {subs : List Nd} {k a b : Nat} (hk : h.kind = 6) (hkl : k < subs.length) (hn : ∀ i (hi : i < k), ¬ tkN L (subs[i]'(by omega)) a b) (ht : tkN L subs[k] a b) (l : List (Int × Int)) :
    walkN (bestN L (.mk h subs) a b) (.mk h subs) l = walkN (bestN L subs[k] a b) subs[k] l := by
  obtain ⟨h1, h2⟩ := pick_first subs k a b hkl hn ht
  rw [bestN, walkN, if_pos (show h.kind = 6 ∨ h.kind = 7 from .inl hk), if_neg (show ¬ h.kind = 7 by omega), if_pos hk]
  unfold ndsOf
  rw [if_pos hk, walkR, walkR, h1, h2, Int.toNat_natCast, List.getD_eq_getElem?_getD, List.getElem?_eq_getElem hkl]
  rfl

section
variable {W : World} {x : Value} {s : ByteArray} {m : List UInt8} {nw ge g c B : Nat}
set_option maxRecDepth 100000 in
set_option maxHeartbeats 16000000 in
theorem lay_alt (h : Hd) (subs : List Nd) (hk : h.kind = 6) (IH : ∀ t ∈ subs, LayOf W x s m nw ge g c B t) (hg : W.heap.size ≤ g) (hS : IsScene W x s m) (hT : Tab W) (hnw : s.size / 64 < nw) (hnn : nw ≤ 100000000) (hss : s.size ≤ 1000000) (hm : m.length ≤ 10000000) : LayOf W x s m nw ge g c B (.mk h subs) := by
  intro svn w l a b tg tk hN hA htg hf hsm hx hE hO ht hb
  have hsub := form_sub hf
  have htA := (tk_alt h subs hk a b).1 ht
  have hab := ((tkN_mon (lfM_ok s m) (.mk h subs)) a b ht).1
  simp only [Nd.h] at hA
  have n0 : w.cell? ⟨tg, tk, none⟩ = some (.int .i64 h.kind) := hA 0 (by decide)
  have n5 : w.cell? ⟨tg, tk + 5, none⟩ = some svn := hA 5 (by decide)
  obtain ⟨SA, sc, rfl, _, hNs⟩ := hN
  have HNS := Lib.hid hNs
  have HX := Lib.hid hx
  have HE := Lib.hid hE
  have HO := Lib.hid hO
  have HIH := Lib.hid IH
  have HSUB := Lib.hid hsub
  have HSM := Lib.hid hsm.2
  have hlen : subs.length ≤ 1000000 := hsm.1
  have HTA := Lib.hid htA
  have HS := Lib.hid hS
  have HTB := Lib.hid hT
  have HK6 := Lib.hid hk
  have hae : EnAt w (.pointer (some ⟨ge, 0, none⟩)) x nw (.slice (some ⟨g, 0, none⟩) l.length c) := ⟨ge, rfl, hE⟩
  have HAE := Lib.hid hae
  have hdiv : a / 64 < nw := by have : a / 64 ≤ s.size / 64 := Nat.div_le_div_right (by omega); omega
  have hdivb : b / 64 < nw := by have : b / 64 ≤ s.size / 64 := Nat.div_le_div_right hb; omega
  rw [hk] at n0
  clear hA hE hO hx IH hsub hsm hf hS hT hk ht htA hae hNs
  go_enter Tryz.func55, Tryz.ntmps55
  go_upto_region 8 with fail
  go_loopw [62] (fun iv wr => ∃ k : Nat, k ≤ subs.length ∧ iv = .int .i64 k ∧ Ext w wr ∧ Hid (∀ i (hi : i < subs.length), i < k → ¬ tkN (lfM s m) subs[i] a b)) (fun iv _ => subs.length - (intOf iv).toNat)
  case atStart => exact ⟨0, Nat.zero_le _, rfl, Ext.refl _, Lib.hid (fun i _ h => by omega)⟩
  case round =>
    obtain ⟨k, hkl, rfl, hx1, HNO⟩ := hrel
    obtain ⟨w1, hw1⟩ : ∃ w, w = wr := ⟨_, rfl⟩
    subst hw1
    have HX1 := Lib.hid hx1
    have n5w := hx1.cell n5
    by_cases hlt : k < subs.length
    · have q9 : (k : Int) < (subs.length : Int) := by omega
      obtain ⟨g0, o0, sv0, rfl, hat, hok⟩ := HNS.out.get k hlt
      have hat0 : NdAt W g0 (o0 + k * 10) (subs[k]).h sv0 := fun i hi => by have := hat i hi; rwa [Nat.zero_add] at this
      have hg0 : g0 < W.heap.size := World.block_lt_of_cell? W ⟨g0, o0 + k * 10 + 0, none⟩ (hat0 0 (by decide))
      have HAT := Lib.hid hat0
      have HOK := Lib.hid hok
      have HON := Lib.hid (fun W' (hW : Ext w1 W') => only_any (.pointer (some ⟨ge, 0, none⟩)) x (.slice (some ⟨g, 0, none⟩) l.length c) nw a W' (HAE.out.ext (HX1.out.trans hW)) hnn hdiv)
      have HLD := Lib.hid (fun W' v (hW : Ext w1 W') (hr : RdP W' v nw (oneP a)) => lead_any (x := x) (m := m) hnw hnn hss hm subs[k] (smallL_mem HSM.out _ (List.getElem_mem hlt)) (.pointer (some ⟨ge, 0, none⟩)) (.slice (some ⟨g, 0, none⟩) l.length c) sv0 v g0 (o0 + k * 10) false (oneP a) W' (HSUB.out _ (List.getElem_mem hlt)) (HAE.out.ext (HX1.out.trans hW)) (HS.out.ext ((HX.out.trans HX1.out).trans hW)) (HAT.out.ext ((HX.out.trans HX1.out).trans hW)) (HOK.out.ok.ext ((HX.out.trans HX1.out).trans hW)) (HTB.out.ext ((HX.out.trans HX1.out).trans hW)) hr (PlN.one (by omega)))
      have HQ : Hid (img (dirR false (tkN (lfM s m) subs[k])) (oneP a) b = true ↔ tkN (lfM s m) subs[k] a b) := Lib.hid img_one
      generalize img (dirR false (tkN (lfM s m) subs[k])) (oneP a) = qk at *
      clear hat hat0 hok hx1
      go_upto_region 10 with fail
      go_cut [77] (fun v wx => v = .bool (qk b) ∧ Ext w1 wx)
      case first =>
        clear n0 n5
        refine wp_region_predz 65 12 [fun v _ => v = .pointer (some ⟨ge, 0, none⟩), fun v _ => v = .pointer (some ⟨tg, tk, none⟩), fun v _ => v = .pointer (some ⟨tg, tk, none⟩), fun v _ => v = .pointer (some ⟨tg, tk + 5, none⟩), fun v _ => v = .slice (some ⟨g0, o0, none⟩) subs.length sc, fun v _ => v = .int .i64 k, fun v _ => v = .pointer (some ⟨g0, o0 + k * 10, none⟩), fun v _ => v = .pointer (some ⟨ge, 0, none⟩), fun v _ => v = .int .i64 a, fun v W' => RdP W' v nw (oneP a), fun v W' => RdP W' v nw qk, fun v _ => v = .int .i64 b] ((Lasts.nil.is.cons fun (v : Value) V V' hx (h : RdP V v nw qk) => (h.ext hx : RdP V' v nw qk)).cons fun (v : Value) V V' hx (h : RdP V v nw (oneP a)) => (h.ext hx : RdP V' v nw (oneP a))).is.is.is.is.is.is.is.is.is (by kernel_rfl) (by kernel_rfl) (by kernel_rfl) (by kernel_rfl) (by kernel_rfl) (by kernel_rfl) (by kernel_rfl) ?_
        intro T hT
        have r6 : List.range 12 = [0, 1, 2, 3, 4, 5, 6, 7, 8, 9, 10, 11] := rfl
        simp only [spliceT, r6, List.map_cons, List.map_nil, List.take_succ_cons, List.take_zero, List.drop_succ_cons, List.drop_zero, List.cons_append, List.nil_append, Nat.reduceAdd] at hT
        simp only [List.take_succ_cons, List.take_zero, List.drop_succ_cons, List.drop_zero, AllS, Nat.reduceAdd]
        refine ⟨⟨?_, ?_, ?_, ?_, ?_, ?_, ?_, ?_, ?_, ?_, ?_, ?_, trivial⟩, ?_⟩
        · intro u W' hx hd'
          clear hd'
          rw [hT u]
          go_wp2
          exact stepQ_mk ⟨Ext.refl _, _, by rw [hT]; simp [updN], rfl⟩
        · intro u W' hx hd'
          clear hd'
          rw [hT u]
          go_wp2
          exact stepQ_mk ⟨Ext.refl _, _, by rw [hT]; simp [updN], rfl⟩
        · intro u W' hx hd'
          have t1 := hd' 1 (mem_of (by kernel_rfl))
          clear hd'
          replace t1 : u 1 = _ := t1
          rw [hT u, t1]
          go_wp2
          exact stepQ_mk ⟨Ext.refl _, _, by rw [hT]; simp [updN, t1], rfl⟩
        · intro u W' hx hd'
          have t2 := hd' 2 (mem_of (by kernel_rfl))
          clear hd'
          replace t2 : u 2 = _ := t2
          rw [hT u, t2]
          go_wp2
          exact stepQ_mk ⟨Ext.refl _, _, by rw [hT]; simp [updN, t2], rfl⟩
        · intro u W' hx hd'
          have t3 := hd' 3 (mem_of (by kernel_rfl))
          clear hd'
          replace t3 : u 3 = _ := t3
          rw [hT u, t3]
          have qf := hx.cell n5w
          go_wp2
          exact stepQ_mk ⟨Ext.refl _, _, by rw [hT]; simp [updN, t3], rfl⟩
        · intro u W' hx hd'
          clear hd'
          rw [hT u]
          go_wp2
          exact stepQ_mk ⟨Ext.refl _, _, by rw [hT]; simp [updN], rfl⟩
        · intro u W' hx hd'
          have t4 := hd' 4 (mem_of (by kernel_rfl))
          have t5 := hd' 5 (mem_of (by kernel_rfl))
          clear hd'
          replace t4 : u 4 = _ := t4
          replace t5 : u 5 = _ := t5
          rw [hT u, t4, t5]
          go_wp2
          exact stepQ_mk ⟨Ext.refl _, _, by rw [hT]; simp [updN, t4, t5], rfl⟩
        · intro u W' hx hd'
          clear hd'
          rw [hT u]
          go_wp2
          exact stepQ_mk ⟨Ext.refl _, _, by rw [hT]; simp [updN], rfl⟩
        · intro u W' hx hd'
          clear hd'
          rw [hT u]
          go_wp2
          exact stepQ_mk ⟨Ext.refl _, _, by rw [hT]; simp [updN], rfl⟩
        · intro u W' hx hd'
          have t7 := hd' 7 (mem_of (by kernel_rfl))
          have t8 := hd' 8 (mem_of (by kernel_rfl))
          clear hd'
          replace t7 : u 7 = _ := t7
          replace t8 : u 8 = _ := t8
          rw [hT u, t7, t8]
          have HOY := Lib.hid (HON.out W' hx)
          go_wp2_with (go_at_call 26; refine HOY.out.mono ?_; rintro e w6 ⟨v6, rfl, ho6, hx6⟩)
          exact stepQ_mk ⟨hx6, _, by rw [hT]; simp [updN, t7, t8], RdP.of_own ho6⟩
        · intro u W' hx hd'
          have t0 := hd' 0 (mem_of (by kernel_rfl))
          have t6 := hd' 6 (mem_of (by kernel_rfl))
          have t9 := hd' 9 (mem_of (by kernel_rfl))
          clear hd'
          replace t0 : u 0 = _ := t0
          replace t6 : u 6 = _ := t6
          replace t9 : RdP W' (u 9) nw (oneP a) := t9
          rw [hT u, t0, t6]
          have HLY := Lib.hid (HLD.out W' (u 9) hx t9)
          obtain ⟨A9, c9, hv9, _⟩ := t9.shape
          generalize hu9 : u 9 = v9 at *
          have HU9 := Lib.hid hu9
          subst hv9
          go_wp2_with (go_at_call 25; refine HLY.out.mono ?_; rintro e w6 ⟨v6, rfl, hx6, hr6, _⟩)
          exact stepQ_mk ⟨hx6, _, by rw [hT]; simp [updN, t0, t6, HU9.out], hr6⟩
        · intro u W' hx hd'
          clear hd'
          rw [hT u]
          go_wp2
          exact stepQ_mk ⟨Ext.refl _, _, by rw [hT]; simp [updN], rfl⟩
        · intro u W' hx hp
          have t11 : u 11 = _ := hp 11 (by omega)
          have t10 : RdP W' (u 10) nw qk := hp 10 (by omega)
          clear hp
          rw [hT u, t11]
          clear hT t11
          have HHS := Lib.hid (hasP_any (u 10) nw qk b W' t10 hdivb hnn)
          obtain ⟨A9, c9, hv9, _⟩ := t10.shape
          have HXX := Lib.hid hx
          clear t10 hx
          generalize u 10 = v10 at *
          subst hv9
          go_wp2_with (go_at_call 32; refine HHS.out.mono ?_; rintro e w6 ⟨rfl, rfl⟩)
          go_meet
          case rel => exact ⟨rfl, HXX.out⟩
      obtain ⟨rfl, hx2⟩ := hcut
      obtain ⟨w2, hw2⟩ : ∃ w, w = wc := ⟨_, rfl⟩
      subst hw2
      have HX2 := Lib.hid (HX1.out.trans hx2)
      have n5x := hx2.cell n5w
      clear hx2 n5w n0 n5
      by_cases hq : qk b = true
      · rw [hq]
        have htk := HQ.out.1 hq
        have HWK := Lib.hid (walk_alt (L := lfM s m) (a := a) (b := b) HK6.out hlt (fun i hi => HNO.out i (by omega) hi) htk l)
        have HC := Lib.hid (HIH.out subs[k] (List.getElem_mem hlt) sv0 w2 l a b g0 (o0 + k * 10) HOK.out (HAT.out.ext (HX.out.trans HX2.out)) (by omega) (HSUB.out _ (List.getElem_mem hlt)) (smallL_mem HSM.out _ (List.getElem_mem hlt)) (HX.out.trans HX2.out) (HE.out.ext HX2.out) (OwnR.ext HO.out HX2.out) htk hb)
        rw [← HWK.out] at HC
        clear htk hq
        go_wp2_with (go_at_call 55; refine HC.out.mono ?_; rintro e w4 ⟨rfl, hO4, hk4⟩)
        refine bodyPost_ret (v := .tuple #[]) ?_ rfl ⟨rfl, hO4, (Keeps.of_ext HX2.out).trans hk4 (fun _ _ h => h)⟩
        simp [results]
      · have hq' : qk b = false := by simpa using hq
        rw [hq']
        have HNO2 : Hid (∀ i (hi : i < subs.length), i < k + 1 → ¬ tkN (lfM s m) subs[i] a b) := Lib.hid (fun i hi h1 h2 => by
          by_cases e : i = k
          · subst e; exact hq (HQ.out.2 h2)
          · exact HNO.out i hi (by omega) h2)
        clear hq hq' n5x
        go_wp2
        go_roundw
        case rel => exact ⟨k + 1, hlt, by go_num, HX2.out, HNO2⟩
        case measure => simp [intOf]; omega
    · exfalso
      obtain ⟨n, hn, hn2⟩ := (tkA_iff (lfM s m) subs a b).1 HTA.out
      obtain ⟨i, hi, hi2⟩ := List.getElem_of_mem hn
      rw [← hi2] at hn2
      exact HNO.out i hi (by omega) hn2
end

end Go.Proofs.YtgfknlkpdiejgaaGreatDoor

namespace Go.Proofs.YtgfknlkpdiejgaaGreatDoor
open Go Go.RowKit

theorem last_cut {n nw : Nat} {R S : Rl} (hR : Mon n R) (hS : Mon n S) {ak b : Nat} (hb : b ≤ n) (hnw : n / 64 < nw) (h : ∃ c : Int, R ak c ∧ S c b) :
    lastV (img R (oneP ak)) (img (dirR true S) (oneP b)) nw ak = ((cutK R S ak ak b : Nat) : Int) := by
  obtain ⟨c, h1, h2⟩ := h
  obtain ⟨c1, c2, c3, c4, c5⟩ := cutK_spec (R := R) (S := S) hS (least := ak) (a := ak) (b := b) ⟨c, (hR ak c h1).1, h1, h2⟩
  generalize cutK R S ak ak b = k at *
  have hq : ∀ j : Nat, andP (img R (oneP ak)) (img (dirR true S) (oneP b)) j = true ↔ R ak j ∧ S j b := fun j => by
    unfold andP
    rw [Bool.and_eq_true, img_one, img_one]
    exact Iff.rfl
  have hk : k < 64 * nw := by
    have : k / 64 ≤ n / 64 := Nat.div_le_div_right (by omega)
    omega
  have hg := grP_at ((hq k).2 ⟨c2, c3⟩) hk (fun i h3 h4 => by
    rw [Bool.eq_false_iff]
    intro h5
    obtain ⟨h6, h7⟩ := (hq i).1 h5
    have h8 := (hR ak i h6).1
    have := c5 i (by omega) h6 h7
    omega)
  unfold lastV
  rw [hg, if_neg (by omega)]
theorem walk_seq {L : Hd → Int → Int → Bool} {h : Hd} {subs : List Nd} {a b : Nat} (hk : h.kind = 5) (l : List (Int × Int)) : walkN (bestN L (.mk h subs) a b) (.mk h subs) l = walkR (bestS L subs a b) subs l := by
  rw [bestN, walkN, if_neg (show ¬ (h.kind = 6 ∨ h.kind = 7) by omega), if_pos hk, if_neg (show ¬ h.kind = 7 by omega)]
  unfold ndsOf
  rw [if_neg (by omega), if_neg (by omega)]

section
variable {W : World} {x : Value} {s : ByteArray} {m : List UInt8} {nw ge g c B : Nat}
set_option maxRecDepth 100000 in
set_option maxHeartbeats 16000000 in
theorem lay_seq (h : Hd) (subs : List Nd) (hk : h.kind = 5) (IH : ∀ t ∈ subs, LayOf W x s m nw ge g c B t) (hge : ge ≠ g) (hg : W.heap.size ≤ g) (hS : IsScene W x s m) (hT : Tab W) (hnw : s.size / 64 < nw) (hnn : nw ≤ 1000000) (hss : s.size ≤ 1000000) (hm : m.length ≤ 10000000) : LayOf W x s m nw ge g c B (.mk h subs) := by
  intro svn w l a b tg tk hN hA htg hf hsm hx hE hO ht hb
  have hsub := form_sub hf
  have htS := (tk_seq h subs hk a b).1 ht
  have hab := ((tkN_mon (lfM_ok s m) (.mk h subs)) a b ht).1
  simp only [Nd.h] at hA
  have n0 : w.cell? ⟨tg, tk, none⟩ = some (.int .i64 h.kind) := hA 0 (by decide)
  have n5 : w.cell? ⟨tg, tk + 5, none⟩ = some svn := hA 5 (by decide)
  obtain ⟨SA, sc, rfl, hscap, hNs⟩ := hN
  have HNS := Lib.hid hNs
  have HX := Lib.hid hx
  have HE := Lib.hid hE
  have HIH := Lib.hid IH
  have HSUB := Lib.hid hsub
  have HSM := Lib.hid hsm.2
  have hlen : subs.length ≤ 1000000 := hsm.1
  have HS := Lib.hid hS
  have HTB := Lib.hid hT
  have HWK := Lib.hid (walk_seq (L := lfM s m) (subs := subs) (a := a) (b := b) hk l)
  rw [hk] at n0
  have hdivb : b / 64 < nw := by have : b / 64 ≤ s.size / 64 := Nat.div_le_div_right hb; omega
  have HST : Hid (tkS (lfM s m) (subs.drop 0) a b) := Lib.hid (by rw [List.drop_zero]; exact htS)
  have HO := Lib.hid hO
  have HN5 := Lib.hid n5
  clear hA hE hx IH hsub hsm hf hS hT hk ht htS hNs hO
  go_enter Tryz.func55, Tryz.ntmps55
  go_upto_region 15 with fail
  go_loopw [2, 96] (fun fv iv wr => ∃ (k ak : Nat) (lk : List (Int × Int)), k ≤ subs.length ∧ iv = .int .i64 k ∧ fv = .int .i64 ak ∧ ak ≤ b ∧ lk.length = l.length ∧ OwnSp wr B (.slice (some ⟨g, 0, none⟩) l.length c) lk ∧ Keeps (· = g) w wr ∧ Hid (tkS (lfM s m) (subs.drop k) ak b) ∧ Hid (walkR (bestS (lfM s m) (subs.drop k) ak b) (subs.drop k) lk = walkR (bestS (lfM s m) subs a b) subs l)) (fun _ iv _ => subs.length - (intOf iv).toNat)
  case atStart => exact ⟨0, a, l, Nat.zero_le _, rfl, rfl, by omega, rfl, HO.out, Keeps.refl _ _, HST, Lib.hid (by rw [List.drop_zero])⟩
  case round =>
    obtain ⟨k, ak, lk, hkl, rfl, rfl, hakb, hlk, ho, hK, HTK, HWR⟩ := hrel
    obtain ⟨w1, hw1⟩ : ∃ w, w = wr := ⟨_, rfl⟩
    subst hw1
    have HK := Lib.hid hK
    have HO1 := Lib.hid ho
    have HLK := Lib.hid hlk
    have n5w := cell_keeps HN5.out hK htg
    have HXW : Hid (Ext W w1) := Lib.hid (HX.out.keepG hK hg)
    have hE1 : EnSp w1 ge x nw g l.length c := HE.out.keeps hK hge
    have HE1 := Lib.hid hE1
    have hae : EnAt w1 (.pointer (some ⟨ge, 0, none⟩)) x nw (.slice (some ⟨g, 0, none⟩) l.length c) := ⟨ge, rfl, hE1⟩
    have HAE := Lib.hid hae
    have hdiv : ak / 64 < nw := by have : ak / 64 ≤ s.size / 64 := Nat.div_le_div_right (by omega); omega
    clear hK ho hlk hE1 hae n5 n0
    by_cases hlt : k < subs.length
    · have q9 : (k : Int) < (subs.length : Int) := by omega
      obtain ⟨g0, o0, sv0, rfl, hat, hok⟩ := HNS.out.get k hlt
      have hat0 : NdAt W g0 (o0 + k * 10) (subs[k]).h sv0 := fun i hi => by have := hat i hi; rwa [Nat.zero_add] at this
      have hg0 : g0 < W.heap.size := World.block_lt_of_cell? W ⟨g0, o0 + k * 10 + 0, none⟩ (hat0 0 (by decide))
      have HAT := Lib.hid hat0
      have HOK := Lib.hid hok
      have hdr : subs.drop k = subs[k] :: subs.drop (k + 1) := List.drop_eq_getElem_cons hlt
      have htk := HTK.out
      have hwr := HWR.out
      rw [hdr] at htk hwr
      rw [tkS] at htk
      rw [bestS, walkR] at hwr
      have HWR2 := Lib.hid hwr
      have hcs := cutK_spec (R := tkN (lfM s m) subs[k]) (S := tkS (lfM s m) (subs.drop (k + 1))) (tkS_mon (lfM_ok s m) _) (least := ak) (a := ak) (b := b) (by obtain ⟨c0, h1, h2⟩ := htk; exact ⟨c0, ((tkN_mon (lfM_ok s m) _) _ _ h1).1, h1, h2⟩)
      have HCS := Lib.hid hcs
      have HLC := Lib.hid (last_cut (nw := nw) (tkN_mon (lfM_ok s m) subs[k]) (tkS_mon (lfM_ok s m) (subs.drop (k + 1))) (ak := ak) (b := b) hb hnw htk)
      have HON := Lib.hid (fun W' (hW : Ext w1 W') => only_any (.pointer (some ⟨ge, 0, none⟩)) x (.slice (some ⟨g, 0, none⟩) l.length c) nw ak W' (HAE.out.ext hW) (by omega) hdiv)
      have HOB := Lib.hid (fun W' (hW : Ext w1 W') => only_any (.pointer (some ⟨ge, 0, none⟩)) x (.slice (some ⟨g, 0, none⟩) l.length c) nw b W' (HAE.out.ext hW) (by omega) hdivb)
      have HLD := Lib.hid (fun W' v (hW : Ext w1 W') (hr : RdP W' v nw (oneP ak)) => lead_any (x := x) (m := m) hnw (by omega) hss hm subs[k] (smallL_mem HSM.out _ (List.getElem_mem hlt)) (.pointer (some ⟨ge, 0, none⟩)) (.slice (some ⟨g, 0, none⟩) l.length c) sv0 v g0 (o0 + k * 10) false (oneP ak) W' (HSUB.out _ (List.getElem_mem hlt)) (HAE.out.ext hW) (HS.out.ext (HXW.out.trans hW)) (HAT.out.ext (HXW.out.trans hW)) (HOK.out.ok.ext (HXW.out.trans hW)) (HTB.out.ext (HXW.out.trans hW)) hr (PlN.one (by omega)))
      obtain ⟨AR, hAR⟩ : ∃ AR : Option Addr, AR = if sc = k + 1 then some ⟨g0, o0, none⟩ else some ⟨g0, o0 + (k + 1) * 10, none⟩ := ⟨_, rfl⟩
      have HAR := Lib.hid hAR
      have hrest : NdsOk W (subs.drop (k + 1)) AR 0 := NdsOk.of (fun j hj => by
        rw [List.length_drop] at hj
        have hsc : ¬ sc = k + 1 := by omega
        rw [hAR, if_neg hsc]
        rw [← List.length_drop] at hj
        rw [List.length_drop] at hj
        obtain ⟨g', o', sv', e1, e2, e3⟩ := HNS.out.get (k + 1 + j) (by omega)
        injection e1 with e1
        injection e1 with e1 e4
        subst e1 e4
        refine ⟨g0, o0 + (k + 1) * 10, sv', rfl, fun i hi => ?_, ?_⟩
        · have := e2 i hi
          rw [show o0 + (0 + (k + 1 + j)) * 10 = o0 + (k + 1) * 10 + (0 + j) * 10 by omega] at this
          rw [List.getElem_drop]
          exact this
        · rw [List.getElem_drop]; exact e3.ok)
      have HRS := Lib.hid hrest
      have HPT := Lib.hid (fun W' v (hW : Ext w1 W') (hr : RdP W' v nw (oneP b)) => parts_lead (x := x) (m := m) (subs.drop (k + 1)) (fun n hn => lead_any (x := x) (m := m) hnw (by omega) hss hm n (smallL_mem HSM.out n (List.mem_of_mem_drop hn))) (lfM_ok s m) (.pointer (some ⟨ge, 0, none⟩)) (.slice (some ⟨g, 0, none⟩) l.length c) v AR (sc - (k + 1)) true (oneP b) W' (fun n hn => HSUB.out n (List.mem_of_mem_drop hn)) (HAE.out.ext hW) (HS.out.ext (HXW.out.trans hW)) (NdsOk.ext (HXW.out.trans hW) _ _ _ HRS.out) (HTB.out.ext (HXW.out.trans hW)) hr (PlN.one hb) (by rw [List.length_drop]; omega))
      simp only [List.length_drop] at HPT
      have hlast := fun W' v u (h1 : RdP W' v nw (img (dirR false (tkN (lfM s m) subs[k])) (oneP ak))) (h2 : RdP W' u nw (img (dirR true (tkS (lfM s m) (subs.drop (k + 1)))) (oneP b))) => last_any v u nw _ _ (ak : Int) W' h1 h2 hnn (by omega)
      have HLA := Lib.hid hlast
      have e1 : dirR false (tkN (lfM s m) subs[k]) = tkN (lfM s m) subs[k] := rfl
      simp only [e1] at HLA HLD
      rw [HLC.out] at HLA
      generalize img (tkN (lfM s m) subs[k]) (oneP ak) = qk at *
      generalize img (dirR true (tkS (lfM s m) (subs.drop (k + 1)))) (oneP b) = qr at *
      clear hAR hat hat0 hok hrest hlast htk hwr hcs hdr e1 HLC
      go_upto_region 17 with fail
      go_cut [10] (fun v wx => v = .int .i64 (cutK (tkN (lfM s m) subs[k]) (tkS (lfM s m) (subs.drop (k + 1))) ak ak b : Nat) ∧ Ext w1 wx)
      case first =>
        have hkc : k + 1 ≤ sc := by omega
        refine wp_region_predz 99 24 [fun v _ => v = .pointer (some ⟨ge, 0, none⟩), fun v _ => v = .pointer (some ⟨tg, tk, none⟩), fun v _ => v = .pointer (some ⟨tg, tk, none⟩), fun v _ => v = .pointer (some ⟨tg, tk + 5, none⟩), fun v _ => v = .slice (some ⟨g0, o0, none⟩) subs.length sc, fun v _ => v = .int .i64 k, fun v _ => v = .pointer (some ⟨g0, o0 + k * 10, none⟩), fun v _ => v = .pointer (some ⟨ge, 0, none⟩), fun v _ => v = .int .i64 ak, fun v W' => RdP W' v nw (oneP ak), fun v W' => RdP W' v nw qk, fun v _ => v = .pointer (some ⟨ge, 0, none⟩), fun v _ => v = .pointer (some ⟨tg, tk, none⟩), fun v _ => v = .pointer (some ⟨tg, tk, none⟩), fun v _ => v = .pointer (some ⟨tg, tk + 5, none⟩), fun v _ => v = .slice (some ⟨g0, o0, none⟩) subs.length sc, fun v _ => v = .int .i64 k, fun v _ => v = .int .i64 ((k : Int) + 1), fun v _ => v = .slice AR (subs.length - (k + 1)) (sc - (k + 1)), fun v _ => v = .pointer (some ⟨ge, 0, none⟩), fun v _ => v = .int .i64 b, fun v W' => RdP W' v nw (oneP b), fun v W' => RdP W' v nw qr, fun v _ => v = .int .i64 ak] (((((Lasts.nil.is.cons fun (v : Value) V V' hx (h : RdP V v nw qr) => (h.ext hx : RdP V' v nw qr)).cons fun (v : Value) V V' hx (h : RdP V v nw (oneP b)) => (h.ext hx : RdP V' v nw (oneP b))).is.is.is.is.is.is.is.is.is.is.cons fun (v : Value) V V' hx (h : RdP V v nw qk) => (h.ext hx : RdP V' v nw qk)).cons fun (v : Value) V V' hx (h : RdP V v nw (oneP ak)) => (h.ext hx : RdP V' v nw (oneP ak))).is.is.is.is.is.is.is.is.is) (by kernel_rfl) (by kernel_rfl) (by kernel_rfl) (by kernel_rfl) (by kernel_rfl) (by kernel_rfl) (by kernel_rfl) ?_
        intro T hT
        have r6 : List.range 24 = [0, 1, 2, 3, 4, 5, 6, 7, 8, 9, 10, 11, 12, 13, 14, 15, 16, 17, 18, 19, 20, 21, 22, 23] := rfl
        simp only [spliceT, r6, List.map_cons, List.map_nil, List.take_succ_cons, List.take_zero, List.drop_succ_cons, List.drop_zero, List.cons_append, List.nil_append, Nat.reduceAdd] at hT
        simp only [List.take_succ_cons, List.take_zero, List.drop_succ_cons, List.drop_zero, AllS, Nat.reduceAdd]
        refine ⟨⟨?_, ?_, ?_, ?_, ?_, ?_, ?_, ?_, ?_, ?_, ?_, ?_, ?_, ?_, ?_, ?_, ?_, ?_, ?_, ?_, ?_, ?_, ?_, ?_, trivial⟩, ?_⟩
        · intro u W' hx hd'
          clear hd'
          rw [hT u]
          go_wp2
          exact stepQ_mk ⟨Ext.refl _, _, by rw [hT]; simp [updN], rfl⟩
        · intro u W' hx hd'
          clear hd'
          rw [hT u]
          go_wp2
          exact stepQ_mk ⟨Ext.refl _, _, by rw [hT]; simp [updN], rfl⟩
        · intro u W' hx hd'
          have t1 := hd' 1 (mem_of (by kernel_rfl))
          clear hd'
          replace t1 : u 1 = _ := t1
          rw [hT u, t1]
          go_wp2
          exact stepQ_mk ⟨Ext.refl _, _, by rw [hT]; simp [updN, t1], rfl⟩
        · intro u W' hx hd'
          have t2 := hd' 2 (mem_of (by kernel_rfl))
          clear hd'
          replace t2 : u 2 = _ := t2
          rw [hT u, t2]
          go_wp2
          exact stepQ_mk ⟨Ext.refl _, _, by rw [hT]; simp [updN, t2], rfl⟩
        · intro u W' hx hd'
          have t3 := hd' 3 (mem_of (by kernel_rfl))
          clear hd'
          replace t3 : u 3 = _ := t3
          rw [hT u, t3]
          have qf := hx.cell n5w
          go_wp2
          exact stepQ_mk ⟨Ext.refl _, _, by rw [hT]; simp [updN, t3], rfl⟩
        · intro u W' hx hd'
          clear hd'
          rw [hT u]
          go_wp2
          exact stepQ_mk ⟨Ext.refl _, _, by rw [hT]; simp [updN], rfl⟩
        · intro u W' hx hd'
          have t4 := hd' 4 (mem_of (by kernel_rfl))
          have t5 := hd' 5 (mem_of (by kernel_rfl))
          clear hd'
          replace t4 : u 4 = _ := t4
          replace t5 : u 5 = _ := t5
          rw [hT u, t4, t5]
          go_wp2
          exact stepQ_mk ⟨Ext.refl _, _, by rw [hT]; simp [updN, t4, t5], rfl⟩
        · intro u W' hx hd'
          clear hd'
          rw [hT u]
          go_wp2
          exact stepQ_mk ⟨Ext.refl _, _, by rw [hT]; simp [updN], rfl⟩
        · intro u W' hx hd'
          clear hd'
          rw [hT u]
          go_wp2
          exact stepQ_mk ⟨Ext.refl _, _, by rw [hT]; simp [updN], rfl⟩
        · intro u W' hx hd'
          have t7 := hd' 7 (mem_of (by kernel_rfl))
          have t8 := hd' 8 (mem_of (by kernel_rfl))
          clear hd'
          replace t7 : u 7 = _ := t7
          replace t8 : u 8 = _ := t8
          rw [hT u, t7, t8]
          have HOY := Lib.hid (HON.out W' hx)
          go_wp2_with (go_at_call 26; refine HOY.out.mono ?_; rintro e w6 ⟨v6, rfl, ho6, hx6⟩)
          exact stepQ_mk ⟨hx6, _, by rw [hT]; simp [updN, t7, t8], RdP.of_own ho6⟩
        · intro u W' hx hd'
          have t0 := hd' 0 (mem_of (by kernel_rfl))
          have t6 := hd' 6 (mem_of (by kernel_rfl))
          have t9 := hd' 9 (mem_of (by kernel_rfl))
          clear hd'
          replace t0 : u 0 = _ := t0
          replace t6 : u 6 = _ := t6
          replace t9 : RdP W' (u 9) nw (oneP ak) := t9
          rw [hT u, t0, t6]
          have HLY := Lib.hid (HLD.out W' (u 9) hx t9)
          obtain ⟨A9, c9, hv9, _⟩ := t9.shape
          generalize hu9 : u 9 = v9 at *
          have HU9 := Lib.hid hu9
          subst hv9
          go_wp2_with (go_at_call 25; refine HLY.out.mono ?_; rintro e w6 ⟨v6, rfl, hx6, hr6, _⟩)
          exact stepQ_mk ⟨hx6, _, by rw [hT]; simp [updN, t0, t6, HU9.out], hr6⟩
        · intro u W' hx hd'
          clear hd'
          rw [hT u]
          go_wp2
          exact stepQ_mk ⟨Ext.refl _, _, by rw [hT]; simp [updN], rfl⟩
        · intro u W' hx hd'
          clear hd'
          rw [hT u]
          go_wp2
          exact stepQ_mk ⟨Ext.refl _, _, by rw [hT]; simp [updN], rfl⟩
        · intro u W' hx hd'
          have t12 := hd' 12 (mem_of (by kernel_rfl))
          clear hd'
          replace t12 : u 12 = _ := t12
          rw [hT u, t12]
          go_wp2
          exact stepQ_mk ⟨Ext.refl _, _, by rw [hT]; simp [updN, t12], rfl⟩
        · intro u W' hx hd'
          have t13 := hd' 13 (mem_of (by kernel_rfl))
          clear hd'
          replace t13 : u 13 = _ := t13
          rw [hT u, t13]
          go_wp2
          exact stepQ_mk ⟨Ext.refl _, _, by rw [hT]; simp [updN, t13], rfl⟩
        · intro u W' hx hd'
          have t14 := hd' 14 (mem_of (by kernel_rfl))
          clear hd'
          replace t14 : u 14 = _ := t14
          rw [hT u, t14]
          have qf := hx.cell n5w
          go_wp2
          exact stepQ_mk ⟨Ext.refl _, _, by rw [hT]; simp [updN, t14], rfl⟩
        · intro u W' hx hd'
          clear hd'
          rw [hT u]
          go_wp2
          exact stepQ_mk ⟨Ext.refl _, _, by rw [hT]; simp [updN], rfl⟩
        · intro u W' hx hd'
          have t16 := hd' 16 (mem_of (by kernel_rfl))
          clear hd'
          replace t16 : u 16 = _ := t16
          rw [hT u, t16]
          go_wp2
          exact stepQ_mk ⟨Ext.refl _, _, by rw [hT]; simp [updN, t16], rfl⟩
        · intro u W' hx hd'
          have t15 := hd' 15 (mem_of (by kernel_rfl))
          have t17 := hd' 17 (mem_of (by kernel_rfl))
          clear hd'
          replace t15 : u 15 = _ := t15
          replace t17 : u 17 = _ := t17
          rw [hT u, t15, t17]
          by_cases hsc : sc = k + 1
          · have eA : AR = some ⟨g0, o0, none⟩ := by rw [HAR.out, if_pos hsc]
            have eB : Value.slice AR (subs.length - (k + 1)) (sc - (k + 1)) = .slice (some ⟨g0, o0, none⟩) 0 0 := by rw [eA, hsc, show subs.length - (k + 1) = 0 by omega, Nat.sub_self]
            have EB := Lib.hid eB
            have hl1 : subs.length = k + 1 := by omega
            clear eA eB
            go_wp2
            exact stepQ_mk ⟨Ext.refl _, .slice (some ⟨g0, o0, none⟩) 0 0, by rw [hT]; simp [updN, t15, t17], by show _ = Value.slice AR _ _; rw [EB.out]⟩
          · have eA : AR = some ⟨g0, o0 + (k + 1) * 10, none⟩ := by rw [HAR.out, if_neg hsc]
            have EA := Lib.hid eA
            clear eA
            go_wp2
            exact stepQ_mk ⟨Ext.refl _, .slice (some ⟨g0, o0 + (k + 1) * 10, none⟩) (subs.length - (k + 1)) (sc - (k + 1)), by rw [hT]; simp [updN, t15, t17], by show _ = Value.slice AR _ _; rw [EA.out]⟩
        · intro u W' hx hd'
          clear hd'
          rw [hT u]
          go_wp2
          exact stepQ_mk ⟨Ext.refl _, _, by rw [hT]; simp [updN], rfl⟩
        · intro u W' hx hd'
          clear hd'
          rw [hT u]
          go_wp2
          exact stepQ_mk ⟨Ext.refl _, _, by rw [hT]; simp [updN], rfl⟩
        · intro u W' hx hd'
          have t19 := hd' 19 (mem_of (by kernel_rfl))
          have t20 := hd' 20 (mem_of (by kernel_rfl))
          clear hd'
          replace t19 : u 19 = _ := t19
          replace t20 : u 20 = _ := t20
          rw [hT u, t19, t20]
          have HOY := Lib.hid (HOB.out W' hx)
          go_wp2_with (go_at_call 26; refine HOY.out.mono ?_; rintro e w6 ⟨v6, rfl, ho6, hx6⟩)
          exact stepQ_mk ⟨hx6, _, by rw [hT]; simp [updN, t19, t20], RdP.of_own ho6⟩
        · intro u W' hx hd'
          have t11 := hd' 11 (mem_of (by kernel_rfl))
          have t18 := hd' 18 (mem_of (by kernel_rfl))
          have t21 := hd' 21 (mem_of (by kernel_rfl))
          clear hd'
          replace t11 : u 11 = _ := t11
          replace t18 : u 18 = _ := t18
          replace t21 : RdP W' (u 21) nw (oneP b) := t21
          rw [hT u, t11, t18]
          have HLY := Lib.hid (HPT.out W' (u 21) hx t21)
          obtain ⟨A9, c9, hv9, _⟩ := t21.shape
          generalize hu9 : u 21 = v9 at *
          have HU9 := Lib.hid hu9
          subst hv9
          go_wp2_with (go_at_call 53; refine HLY.out.mono ?_; rintro e w6 ⟨v6, rfl, hx6, hr6, _⟩)
          exact stepQ_mk ⟨hx6, _, by rw [hT]; simp [updN, t11, t18, HU9.out], hr6⟩
        · intro u W' hx hd'
          clear hd'
          rw [hT u]
          go_wp2
          exact stepQ_mk ⟨Ext.refl _, _, by rw [hT]; simp [updN], rfl⟩
        · intro u W' hx hp
          have t23 : u 23 = _ := hp 23 (by omega)
          have t10 : RdP W' (u 10) nw qk := hp 10 (by omega)
          have t22 : RdP W' (u 22) nw qr := hp 22 (by omega)
          clear hp
          rw [hT u, t23]
          clear hT t23
          have HHS := Lib.hid (HLA.out W' _ _ t10 t22)
          obtain ⟨A9, c9, hv9, _⟩ := t10.shape
          obtain ⟨A8, c8, hv8, _⟩ := t22.shape
          have HXX := Lib.hid hx
          clear t10 t22 hx
          generalize u 10 = v10 at *
          generalize u 22 = v22 at *
          subst hv9 hv8
          go_wp2_with (go_at_call 27; refine HHS.out.mono ?_; rintro e w6 ⟨rfl, hx6⟩)
          go_meet
          case rel => exact ⟨rfl, HXX.out.trans hx6⟩
      obtain ⟨rfl, hx2⟩ := hcut
      obtain ⟨w2, hw2⟩ : ∃ w, w = wc := ⟨_, rfl⟩
      subst hw2
      obtain ⟨c1, c2, c3, c4, _⟩ := HCS.out
      have c3 := Lib.hid c3
      have HWR3 := HWR2
      clear HWR2 HCS HLA HPT HLD HON HOB HRS HAR
      generalize cutK (tkN (lfM s m) subs[k]) (tkS (lfM s m) (subs.drop (k + 1))) ak ak b = kk at *
      have hxW2 : Ext W w2 := HXW.out.trans hx2
      have n5 := hx2.cell n5w
      have HC := Lib.hid (HIH.out _ (List.getElem_mem hlt) sv0 w2 lk ak kk g0 (o0 + k * 10) HOK.out (HAT.out.ext hxW2) (by omega) (HSUB.out _ (List.getElem_mem hlt)) (smallL_mem HSM.out _ (List.getElem_mem hlt)) hxW2 (by rw [HLK.out]; exact HE1.out.ext hx2) (by rw [HLK.out]; exact OwnR.ext HO1.out hx2) c2 (by omega))
      rw [HLK.out] at HC
      have HLN : Hid ((walkN (bestN (lfM s m) subs[k] ak kk) subs[k] lk).length = l.length) := Lib.hid (by rw [walkN_len]; exact HLK.out)
      have HKK := Lib.hid (HK.out.trans (Keeps.of_ext hx2) (fun _ _ h => h))
      clear c2 hx2 hxW2 n5w
      generalize walkN (bestN (lfM s m) subs[k] ak kk) subs[k] lk = lk2 at *
      go_wp2_with (go_at_call 55; refine HC.out.mono ?_; rintro e w3 ⟨rfl, hO3, hk3⟩)
      go_roundw
      case rel => exact ⟨k + 1, kk, lk2, hlt, by go_num, rfl, c4, HLN.out, hO3, HKK.out.trans hk3 (fun _ _ h => h), c3, HWR3⟩
      case measure => simp [intOf]; omega
    · have hk2 : k = subs.length := by omega
      have hdn : subs.drop k = [] := by rw [hk2]; exact List.drop_length
      have htk := HTK.out
      have hwr := HWR.out
      rw [hdn] at htk hwr
      have HF : Hid (lk = walkR (bestS (lfM s m) subs a b) subs l) := Lib.hid (by rw [← hwr]; rw [bestS, walkR])
      have HF2 : Hid (OwnSp w1 B (.slice (some ⟨g, 0, none⟩) l.length c) (walkR (bestS (lfM s m) subs a b) subs l)) := Lib.hid (by rw [← HF.out]; exact HO1.out)
      clear htk hwr hdn hk2
      go_wp2
      go_end0
      exact ⟨rfl, by rw [HWK.out]; exact HF2.out, HK.out⟩
end

end Go.Proofs.YtgfknlkpdiejgaaGreatDoor
