/- Parses in plain words; how a parse lies in memory. No program. The scene's functions, each as a contract: what New makes in memory, and what the readers answer. Subjects of at most a million bytes. The reference's functions for scenes, each as a contract: what it answers, as a plain function of the subject and the flags. The turned scene as a contract, and the reference's text of a scene. Subjects of at most a million bytes. -/
import Derived.Test.YtgfknlkpdiejgaaGreatDoorLib
import Derived.Test.YtgfknlkpdiejgaaGreatDoorProg
namespace Go.Proofs.YtgfknlkpdiejgaaGreatDoor
open Go Go.RowKit

structure Pd where
  a : Int
  b : Int
  k : Int
inductive Ps where
  | mk (d : Pd) (subs : List Ps)
def Ps.d : Ps → Pd | .mk d _ => d
def Ps.subs : Ps → List Ps | .mk _ s => s
instance : Inhabited Ps := ⟨.mk ⟨0, 0, 0⟩ []⟩
/-- A parse's cells; sv: its list. -/
def psC (d : Pd) (sv : Value) : List Value := [.int .i64 d.a, .int .i64 d.b, .int .i64 d.k, sv]
mutual
def PsOk (W : World) : Ps → Value → Prop
  | .mk _ subs, sv => ∃ A c, sv = .slice A subs.length c ∧ PssOk W subs A 0
def PssOk (W : World) : List Ps → Option Addr → Nat → Prop
  | [], _, _ => True
  | n :: r, A, k => (∃ g o sv, A = some ⟨g, o, none⟩ ∧ (∀ i, i < 4 → W.cell? ⟨g, o + k * 4 + i, none⟩ = (psC n.d sv)[i]?) ∧ PsOk W n sv) ∧ PssOk W r A (k + 1)
end
mutual
theorem PsOk.ext {W W' : World} (hx : Ext W W') : ∀ (n : Ps) (sv : Value), PsOk W n sv → PsOk W' n sv
  | .mk _ subs, _ => fun ⟨A, c, h1, h2⟩ => ⟨A, c, h1, PssOk.ext hx subs A 0 h2⟩
theorem PssOk.ext {W W' : World} (hx : Ext W W') : ∀ (l : List Ps) (A : Option Addr) (k : Nat), PssOk W l A k → PssOk W' l A k
  | [], _, _ => fun _ => trivial
  | n :: r, A, k => fun ⟨⟨g, o, sv, h1, h2, h3⟩, h4⟩ => ⟨⟨g, o, sv, h1, fun i hi => (by
      have e := h2 i hi
      have hs : (psC n.d sv)[i]? = some (psC n.d sv)[i] := List.getElem?_eq_getElem (by simpa [psC] using hi)
      rw [hs] at e ⊢
      exact hx.cell e), PsOk.ext hx n sv h3⟩, PssOk.ext hx r A (k + 1) h4⟩
end
theorem PssOk.of {W : World} {A : Option Addr} : ∀ {l : List Ps} {k : Nat}, (∀ j (hj : j < l.length), ∃ g o sv, A = some ⟨g, o, none⟩ ∧ (∀ i, i < 4 → W.cell? ⟨g, o + (k + j) * 4 + i, none⟩ = (psC (l[j]).d sv)[i]?) ∧ PsOk W l[j] sv) → PssOk W l A k
  | [], _, _ => trivial
  | n :: r, k, h => ⟨h 0 (by simp), PssOk.of (k := k + 1) fun j hj => by
    obtain ⟨g, o, sv, h3, h4, h5⟩ := h (j + 1) (by simpa using hj)
    refine ⟨g, o, sv, h3, fun i hi => ?_, h5⟩
    rw [show k + 1 + j = k + (j + 1) by omega]
    exact h4 i hi⟩
/-- A parse's four cells lie here. -/
def PsAt (w : World) (g o : Nat) (d : Pd) (sv : Value) : Prop := ∀ i, i < 4 → w.cell? ⟨g, o + i, none⟩ = (psC d sv)[i]?
theorem PsAt.ext {w w' : World} {g o : Nat} {d : Pd} {sv : Value} (hn : PsAt w g o d sv) (hx : Ext w w') : PsAt w' g o d sv := fun i hi => by
  have hs : (psC d sv)[i]? = some (psC d sv)[i] := List.getElem?_eq_getElem (by simpa [psC] using hi)
  have := hn i hi
  rw [hs] at this ⊢
  exact hx.cell this
theorem PsAt.drew {w : World} {g o : Nat} {d : Pd} {sv : Value} (hn : PsAt w g o d sv) : PsAt w.drew g o d sv := fun i hi => hn i hi
theorem PssOk.get {W : World} : ∀ {l : List Ps} {A : Option Addr} {k : Nat}, PssOk W l A k → ∀ j (hj : j < l.length), ∃ g o sv, A = some ⟨g, o, none⟩ ∧ PsAt W g (o + (k + j) * 4) (l[j]).d sv ∧ PsOk W l[j] sv
  | [], _, _, _, j, hj => absurd hj (Nat.not_lt_zero _)
  | _ :: _, _, _, ⟨h1, _⟩, 0, _ => h1
  | _ :: r, A, k, ⟨_, h2⟩, j + 1, hj => by
    obtain ⟨g, o, sv, h3, h4, h5⟩ := PssOk.get h2 j (by simpa using hj)
    refine ⟨g, o, sv, h3, ?_, h5⟩
    rw [show k + (j + 1) = k + 1 + j by omega]
    exact h4
theorem PsOk.shape {W : World} {n : Ps} {sv : Value} (h : PsOk W n sv) : ∃ A c, sv = .slice A n.subs.length c := by
  obtain ⟨d, s⟩ := n
  obtain ⟨A, c, h, _⟩ := h
  exact ⟨A, c, h⟩
theorem PsOk.get {W : World} {d : Pd} {subs : List Ps} {A : Option Addr} {n c : Nat} (hn : PsOk W (.mk d subs) (.slice A n c)) (k : Nat) (hk : k < subs.length) :
    ∃ g o sv, A = some ⟨g, o, none⟩ ∧ PsAt W g (o + k * 4) (subs[k]).d sv ∧ PsOk W subs[k] sv := by
  unfold PsOk at hn
  obtain ⟨A', c', e, hs⟩ := hn
  injection e with e1 e2 e3
  subst e1
  have := hs.get k hk
  rwa [Nat.zero_add] at this
theorem Ps.ind {p : Ps → Prop} (h : ∀ d subs, (∀ n ∈ subs, p n) → p (.mk d subs)) : ∀ n, p n := fun n => by
  refine Ps.rec (motive_1 := p) (motive_2 := fun l => ∀ n ∈ l, p n) (fun d subs ih => h d subs ih) (fun n hn => by cases hn) (fun a l ha hl n hn => ?_) n
  rcases List.mem_cons.1 hn with rfl | hn
  · exact ha
  · exact hl n hn
/-- A parse as a value. -/
def psV (d : Pd) (sv : Value) : Value := .agg #[.int .i64 d.a, .int .i64 d.b, .int .i64 d.k, sv]
def psA (d : Pd) (sv : Value) : Array Value := (psC d sv).toArray
theorem psV_eq (d : Pd) (sv : Value) : psV d sv = .agg (psA d sv) := rfl
theorem Blk.ps {w : World} {g : Nat} {t : TypeId} {d : Pd} {sv : Value} (hb : Blk w g t (psA d sv)) : PsAt w g 0 d sv := fun i _ => by
  rw [Nat.zero_add, hb.cell]; simp [psA]
theorem ps_cells {w W : World} {g k : Nat} {d : Pd} {sv : Value} (hc : PsAt w g k d sv) (hx : Ext w W) :
    W.cell? ⟨g, k, none⟩ = some (.int .i64 d.a) ∧ W.cell? ⟨g, k + 1, none⟩ = some (.int .i64 d.b) ∧ W.cell? ⟨g, k + 2, none⟩ = some (.int .i64 d.k) ∧ W.cell? ⟨g, k + 3, none⟩ = some sv :=
  ⟨hx.cell (hc 0 (by omega)), hx.cell (hc 1 (by omega)), hx.cell (hc 2 (by omega)), hx.cell (hc 3 (by omega))⟩

/-! ### few -/
mutual
def pleftN : Ps → Int → Int
  | .mk _ subs, m => pleftL subs (m - 1)
def pleftL : List Ps → Int → Int
  | [], m => m
  | n :: r, m => if 0 ≤ m then pleftL r (pleftN n m) else m
end
theorem pleftL_neg : ∀ (l : List Ps) (m : Int), m < 0 → pleftL l m = m
  | [], _, _ => rfl
  | _ :: _, m, h => by unfold pleftL; rw [if_neg (by omega)]
theorem pleftL_app : ∀ (a b : List Ps) (m : Int), pleftL (a ++ b) m = pleftL b (pleftL a m)
  | [], _, _ => rfl
  | n :: a, b, m => by
    show pleftL (n :: (a ++ b)) m = pleftL b (pleftL (n :: a) m)
    by_cases h : 0 ≤ m
    · rw [show pleftL (n :: (a ++ b)) m = pleftL (a ++ b) (pleftN n m) by rw [pleftL, if_pos h], show pleftL (n :: a) m = pleftL a (pleftN n m) by rw [pleftL, if_pos h]]
      exact pleftL_app a b _
    · rw [pleftL_neg _ _ (by omega), pleftL_neg (n :: a) _ (by omega), pleftL_neg _ _ (by omega)]
theorem pleftL_one (n : Ps) (m : Int) (h : 0 ≤ m) : pleftL [n] m = pleftN n m := by rw [pleftL, if_pos h, pleftL]
mutual
theorem pleftN_range : ∀ (n : Ps) (m : Int), 0 ≤ m → -1 ≤ pleftN n m ∧ pleftN n m < m
  | .mk _ subs, m, h => by
    have := pleftL_range subs (m - 1) (by omega)
    unfold pleftN
    omega
theorem pleftL_range : ∀ (l : List Ps) (m : Int), -1 ≤ m → -1 ≤ pleftL l m ∧ pleftL l m ≤ m
  | [], m, h => by unfold pleftL; omega
  | n :: r, m, h => by
    unfold pleftL
    split
    · rename_i h0
      have h1 := pleftN_range n m h0
      have h2 := pleftL_range r (pleftN n m) h1.1
      omega
    · omega
end
theorem pleftL_len : ∀ (l : List Ps) (m : Int), 0 ≤ pleftL l m → pleftL l m + l.length ≤ m
  | [], m, _ => by unfold pleftL; simp
  | n :: r, m, h => by
    by_cases h0 : 0 ≤ m
    · rw [pleftL, if_pos h0] at h ⊢
      have h1 := pleftL_len r _ h
      have h2 := pleftN_range n m h0
      simp only [List.length_cons]
      omega
    · rw [pleftL_neg _ _ (by omega)] at h
      omega
mutual
/-- Lists of at most a million. -/
def smallP : Ps → Prop
  | .mk _ s => s.length ≤ 1000000 ∧ smallPL s
def smallPL : List Ps → Prop
  | [] => True
  | n :: r => smallP n ∧ smallPL r
end
theorem smallPL_mem : ∀ {l : List Ps}, smallPL l → ∀ n ∈ l, smallP n
  | [], _, n, hn => by cases hn
  | a :: r, h, n, hn => by
    rcases List.mem_cons.1 hn with rfl | hn
    · exact h.1
    · exact smallPL_mem h.2 n hn
mutual
theorem smallP_left : ∀ (n : Ps) (m : Int), m ≤ 1000000 → 0 ≤ pleftN n m → smallP n
  | .mk _ s, m, hm, h => by
    unfold pleftN at h
    have := pleftL_len s (m - 1) h
    exact ⟨by omega, smallPL_left s (m - 1) (by omega) h⟩
theorem smallPL_left : ∀ (l : List Ps) (m : Int), m ≤ 1000000 → 0 ≤ pleftL l m → smallPL l
  | [], _, _, _ => trivial
  | n :: r, m, hm, h => by
    by_cases h0 : 0 ≤ m
    · rw [pleftL, if_pos h0] at h
      have h2 : 0 ≤ pleftN n m := by
        rcases Int.lt_or_le (pleftN n m) 0 with h3 | h3
        · rw [pleftL_neg _ _ h3] at h; omega
        · exact h3
      have := pleftN_range n m h0
      exact ⟨smallP_left n m hm h2, smallPL_left r _ (by omega) h⟩
    · rw [pleftL_neg _ _ (by omega)] at h; omega
end

end Go.Proofs.YtgfknlkpdiejgaaGreatDoor

namespace Go.Proofs.YtgfknlkpdiejgaaGreatDoor
open Go.RowKit

theorem info_u8 : (Tryz.prog.info? 5).map (fun i => (i.zero, i.size, i.bytes)) = some (some (.int .u8 0), 1, 1) := by kernel_rfl

/-- A scene in memory: its text and its marks. -/
def IsScene (w : World) (p : Value) (s : ByteArray) (m : List UInt8) : Prop :=
  ∃ g g', p = .pointer (some ⟨g, 0, none⟩) ∧ Blk w g 62 #[.string s, .slice (some ⟨g', 0, none⟩) m.length m.length] ∧ Blk w g' 5 (u8s m)

theorem IsScene.ext {w w' : World} {p : Value} {s : ByteArray} {m : List UInt8} (h : IsScene w p s m) (hx : Ext w w') : IsScene w' p s m := by
  obtain ⟨g, g', h0, h1, h2⟩ := h
  exact ⟨g, g', h0, h1.ext hx, h2.ext hx⟩

/-- A place's mark, of the two bits. -/
def mk (b e : Bool) : UInt8 := (if b then 1 else 0) ||| (if e then 2 else 0)
theorem mk_or2 (b e : Bool) : mk b e ||| 2 = mk b true := by cases b <;> cases e <;> rfl
theorem mk_or1 (b e : Bool) : mk b e ||| 1 = mk true e := by cases b <;> cases e <;> rfl

/-- Is place i a beginning, an end, when the first k bytes have been looked at? -/
def mB (s : ByteArray) (c e : Int) (k i : Nat) : Bool :=
  (i == 0 && (bits .and .i64 e 1 == 0)) || (!(bits .and .i64 c 4 == 0) && (decide (0 < i ∧ i ≤ k) && (s.data.toList.getD (i - 1) 0 == 10)))
def mE (s : ByteArray) (c e : Int) (k i : Nat) : Bool :=
  (i == s.size && (bits .and .i64 e 2 == 0)) || (!(bits .and .i64 c 4 == 0) && (decide (i < k) && (s.data.toList.getD i 0 == 10)))
def mkAt (s : ByteArray) (c e : Int) (k : Nat) : List UInt8 := (List.range (s.size + 1)).map fun i => mk (mB s c e k i) (mE s c e k i)
@[simp] theorem mkAt_len (s : ByteArray) (c e : Int) (k : Nat) : (mkAt s c e k).length = s.size + 1 := by simp [mkAt]
theorem mkAt_get (s : ByteArray) (c e : Int) (k i : Nat) (h : i < s.size + 1) : (mkAt s c e k).getD i 0 = mk (mB s c e k i) (mE s c e k i) := by
  simp [mkAt, List.getD_eq_getElem?_getD, h]

theorem mkAt_start (s : ByteArray) (c e : Int) (l1 : List UInt8)
    (h1 : (if (bits .and .i64 e 1 == 0) = true then (List.replicate (s.size + 1) 0).set 0 1 else List.replicate (s.size + 1) (0 : UInt8)) = l1) :
    (if (bits .and .i64 e 2 == 0) = true then l1.set s.size (l1.getD s.size 0 ||| 2) else l1) = mkAt s c e 0 := by
  have e1 : l1 = (List.range (s.size + 1)).map fun i => mk (i == 0 && (bits .and .i64 e 1 == 0)) false := by
    subst h1
    apply List.ext_getElem
    · split <;> simp
    · intro i a b
      by_cases h : (bits .and .i64 e 1 == 0) = true
      · simp only [h, ↓reduceIte, List.getElem_set, List.getElem_map, List.getElem_range, List.getElem_replicate]
        by_cases h0 : 0 = i
        · subst h0; simp; rfl
        · rw [if_neg h0]
          have h0' : (i == 0) = false := by rw [beq_eq_false_iff_ne]; omega
          rw [h0']; rfl
      · simp only [h, Bool.false_eq_true, ↓reduceIte, List.getElem_map, List.getElem_replicate, Bool.and_false]
        rfl
  have e2 : mkAt s c e 0 = (List.range (s.size + 1)).map fun i => mk (i == 0 && (bits .and .i64 e 1 == 0)) (i == s.size && (bits .and .i64 e 2 == 0)) := by
    unfold mkAt
    apply List.map_congr_left
    intro i hi
    congr 1
    · unfold mB
      have : decide (0 < i ∧ i ≤ 0) = false := by simp; omega
      rw [this]; simp
    · unfold mE
      simp
  rw [e2]
  subst e1
  apply List.ext_getElem
  · split <;> simp
  · intro i a b
    have hi : i < s.size + 1 := by simpa using b
    by_cases h : (bits .and .i64 e 2 == 0) = true
    · simp only [h, ↓reduceIte, List.getElem_set, List.getElem_map, List.getElem_range]
      by_cases h0 : s.size = i
      · subst h0
        rw [if_pos rfl]
        rw [List.getD_eq_getElem?_getD]
        simp only [List.length_map, List.length_range, Nat.lt_add_one, getElem?_pos, List.getElem_map, List.getElem_range, Option.getD_some, beq_self_eq_true, Bool.and_true]
        exact mk_or2 _ _
      · rw [if_neg h0]
        have h0' : (i == s.size) = false := by rw [beq_eq_false_iff_ne]; omega
        rw [h0']; rfl
    · simp only [h, Bool.false_eq_true, ↓reduceIte, List.getElem_map, List.getElem_range, Bool.and_false]

theorem mkAt_hit (s : ByteArray) (c e : Int) (k : Nat) (hk : k < s.size) (hc : (bits .and .i64 c 4 == 0) = false) (hb : s.data.toList.getD k 0 = 10) :
    ((mkAt s c e k).set k ((mkAt s c e k).getD k 0 ||| 2)).set (k + 1) ((mkAt s c e k).getD (k + 1) 0 ||| 1) = mkAt s c e (k + 1) := by
  have hb' : (s.data.toList.getD k 0 == 10) = true := by rw [hb]; rfl
  rw [mkAt_get _ _ _ _ k (by omega), mkAt_get _ _ _ _ (k + 1) (by omega), mk_or2, mk_or1]
  apply List.ext_getElem
  · simp
  · intro i a b
    simp only [List.getElem_set]
    have g : ∀ k' (h : i < (mkAt s c e k').length), (mkAt s c e k')[i] = mk (mB s c e k' i) (mE s c e k' i) := by intro k' h; simp [mkAt]
    rw [g, g]
    by_cases h1 : k + 1 = i
    · subst h1
      rw [if_pos rfl]
      have d1 : decide (0 < k + 1 ∧ k + 1 ≤ k + 1) = true := by simp
      have d2 : decide (k + 1 < k + 1) = false := by simp
      have d3 : decide (k + 1 < k) = false := by simp
      have e1 : mB s c e (k + 1) (k + 1) = true := by unfold mB; rw [hc, d1, Nat.add_sub_cancel, hb']; simp
      have e2 : mE s c e (k + 1) (k + 1) = mE s c e k (k + 1) := by unfold mE; rw [d2, d3]
      rw [e1, e2]
    · rw [if_neg h1]
      by_cases h2 : k = i
      · subst h2
        rw [if_pos rfl]
        have d1 : decide (k < k + 1) = true := by simp
        have d2 : decide (0 < k ∧ k ≤ k + 1) = decide (0 < k ∧ k ≤ k) := by rw [decide_eq_decide]; omega
        have e1 : mE s c e (k + 1) k = true := by unfold mE; rw [hc, d1, hb']; simp
        have e2 : mB s c e (k + 1) k = mB s c e k k := by unfold mB; rw [d2]
        rw [e1, e2]
      · rw [if_neg h2]
        have e1 : mE s c e (k + 1) i = mE s c e k i := by
          unfold mE
          have : decide (i < k + 1) = decide (i < k) := by rw [decide_eq_decide]; omega
          rw [this]
        have e2 : mB s c e (k + 1) i = mB s c e k i := by
          unfold mB
          have : decide (0 < i ∧ i ≤ k + 1) = decide (0 < i ∧ i ≤ k) := by rw [decide_eq_decide]; omega
          rw [this]
        rw [e1, e2]

theorem mkAt_miss (s : ByteArray) (c e : Int) (k : Nat) (hb : ¬ s.data.toList.getD k 0 = 10) : mkAt s c e k = mkAt s c e (k + 1) := by
  unfold mkAt
  apply List.map_congr_left
  intro i _
  have hb' : (s.data.toList.getD k 0 == 10) = false := by simpa using hb
  congr 1
  · unfold mB
    by_cases h : i = k + 1
    · subst h; simp only [Nat.add_sub_cancel, hb', Bool.and_false]
    · have : decide (0 < i ∧ i ≤ k + 1) = decide (0 < i ∧ i ≤ k) := by rw [decide_eq_decide]; omega
      rw [this]
  · unfold mE
    by_cases h : i = k
    · subst h; simp only [hb', Bool.and_false]
    · have : decide (i < k + 1) = decide (i < k) := by rw [decide_eq_decide]; omega
      rw [this]

theorem mkAt_off (s : ByteArray) (c e : Int) (k k' : Nat) (hc : (bits .and .i64 c 4 == 0) = true) : mkAt s c e k = mkAt s c e k' := by
  unfold mkAt mB mE
  simp [hc]

theorem getD_byte (s : ByteArray) (k : Nat) (h : k < s.size) : s.data.toList.getD k 0 = s[k] := by
  have : k < s.data.toList.length := by simpa using h
  rw [List.getD_eq_getElem?_getD, List.getElem?_eq_getElem this]
  rfl

theorem made_row (n : Nat) (hn : n ≤ 100000000) (W : World) : (Instr.makeSlice 60 (.int .i64 (n : Int)) (.int .i64 (n : Int))).run Tryz.prog W =
    .ok (.slice (some ⟨W.heap.size, 0, none⟩) n n) (W.alloc (.cells (u8s (List.replicate n 0)) 5)) := by
  obtain ⟨i0, hi0, hz0, hz1, hz2⟩ := info_parts info_u8
  have := run_make (P := Tryz.prog) W 60 5 i0 (.int .u8 0) Tryz.underlying60 hi0 hz0 .i64 .i64 (n : Int) (n : Int) (by omega) (by omega) (by rw [hz2]; omega) (by omega)
  rw [this]
  rw [Int.toNat_natCast, hz1, Nat.mul_one]
  simp [Value.cells, made_u8]

set_option maxHeartbeats 2000000 in
theorem new_any (s : ByteArray) (c e : Int) (w : World) (hs : s.size ≤ 1000000) :
    Calls Tryz.prog 7 #[.string s, .int .i64 c, .int .i64 e] w fun r w' => (∃ p, r = .returned p ∧ IsScene w' p s (mkAt s c e s.size)) ∧ Ext w w' := by
  have hmk := fun W => made_row (s.size + 1) (by omega) W
  simp only [Int.natCast_add, Int.cast_ofNat_Int] at hmk
  go_enter Tryz.func7, Tryz.ntmps7
  go_upto_region 1 with fail
  go_cut [7] (fun p wx => ∃ g g', p = .pointer (some ⟨g, 0, none⟩) ∧ Blk wx g 62 #[.string s, .slice (some ⟨g', 0, none⟩) (s.size + 1) (s.size + 1)] ∧ Blk wx g' 5 (u8s (List.replicate (s.size + 1) 0)) ∧ Ext w wx ∧ w.heap.size ≤ g' ∧ w.heap.size ≤ g)
  case first =>
    go_wp2
    go_meet
    case rel =>
      exact ⟨w.heap.size + 1, w.heap.size, rfl, by simpa using Blk.new (w.alloc _) 62 _, (Blk.new w 5 _).alloc _, ((Ext.refl w).alloc _).alloc _, by omega, by omega⟩
  case rest =>
    obtain ⟨g, g', rfl, h1, h2, hx, hg, hg'⟩ := hcut
    have hne : g ≠ g' := h1.ne h2 (by decide)
    clear hmk
    have hn : 0 < s.size + 1 := by omega
    go_upto_if 18 with fail
    go_cut [] (fun wx => Blk wx g 62 #[.string s, .slice (some ⟨g', 0, none⟩) (s.size + 1) (s.size + 1)] ∧ Blk wx g' 5 (u8s (if (bits .and .i64 e 1 == 0) = true then (List.replicate (s.size + 1) 0).set 0 1 else List.replicate (s.size + 1) 0)) ∧ Ext w wx)
    case first =>
      by_cases b1 : (bits .and .i64 e 1 == 0) = true
      · have c1 := h1.cell 1
        simp at c1
        have c2 := h2.cell 0
        rw [u8s_get _ _ (by simp)] at c2
        simp at c2
        have f2 := h2.frozen 0
        go_wp2
        go_meet
        case rel =>
          rw [if_pos b1]
          refine ⟨h1.far (by exact hne) _, ?_, hx.setCell (by exact hg) _⟩
          rw [← u8s_set]
          exact h2.set 0 _
      · go_wp2
        go_meet
        case rel =>
          rw [if_neg b1]
          exact ⟨h1, h2, hx⟩
    case rest =>
      obtain ⟨h1, h2, hx⟩ := hcut
      generalize hl1 : (if (bits .and .i64 e 1 == 0) = true then (List.replicate (s.size + 1) 0).set 0 1 else List.replicate (s.size + 1) (0 : UInt8)) = l1 at h2
      have hlen : s.size < l1.length := by subst hl1; split <;> simp
      have HL1 := Lib.hid hl1; clear hl1
      go_upto_if 29 with fail
      go_cut [] (fun wx => Blk wx g 62 #[.string s, .slice (some ⟨g', 0, none⟩) (s.size + 1) (s.size + 1)] ∧ Blk wx g' 5 (u8s (if (bits .and .i64 e 2 == 0) = true then l1.set s.size (l1.getD s.size 0 ||| 2) else l1)) ∧ Ext w wx)
      case first =>
        by_cases b1 : (bits .and .i64 e 2 == 0) = true
        · have c1 := h1.cell 1
          simp at c1
          have c2 := h2.cell s.size
          rw [u8s_get _ _ hlen] at c2
          have f2 := h2.frozen s.size
          generalize hy : l1.getD s.size 0 = y at *
          have HY := Lib.hid hy; clear hy
          go_wp2
          go_meet
          case rel =>
            rw [if_pos b1]
            refine ⟨h1.far (by exact hne) _, ?_, hx.setCell (by exact hg) _⟩
            rw [← u8s_set, ← or2]
            exact h2.set s.size _
        · go_wp2
          go_meet
          case rel =>
            rw [if_neg b1]
            exact ⟨h1, h2, hx⟩
      case rest =>
        obtain ⟨h1, h2, hx⟩ := hcut
        rw [mkAt_start s c e l1 HL1.out] at h2
        clear HL1
        go_wp2
        go_loopw [8] (fun i wr => ∃ k : Nat, k ≤ s.size ∧ i = .int .i64 k ∧ Blk wr g 62 #[.string s, .slice (some ⟨g', 0, none⟩) (s.size + 1) (s.size + 1)] ∧ Blk wr g' 5 (u8s (mkAt s c e k)) ∧ Ext w wr) (fun i _ => s.size - (intOf i).toNat)
        case atStart => exact ⟨0, Nat.zero_le _, rfl, h1, h2, hx⟩
        case round =>
          clear h1 h2 hx
          obtain ⟨k, hk, rfl, h1, h2, hx⟩ := hrel
          by_cases hlt : k < s.size
          · cases hb1 : (bits .and .i64 c 4 == 0)
            · have hb2 : (bits .and .i64 c 4 != 0) = true := by simpa using hb1
              have hlen : k < (mkAt s c e k).length := by simp; omega
              have hlen1 : k + 1 < (mkAt s c e k).length := by simp; omega
              have HC := Lib.hid hb1
              clear hb1
              by_cases hb : s[k].toNat = 10
              · have hb3 : ((s[k].toNat : Int) == 10) = true := by rw [hb]; rfl
                have HK := Lib.hid (mkAt_hit s c e k hlt HC.out (by rw [getD_byte s k hlt]; exact UInt8.toNat_inj.1 hb))
                clear hb
                have c1 := h1.cell 1
                simp at c1
                have c2 := h2.cell k
                rw [u8s_get _ _ hlen] at c2
                have f2 := h2.frozen k
                have c3 := h2.cell (k + 1)
                rw [u8s_get _ _ hlen1] at c3
                have f3 := h2.frozen (k + 1)
                generalize hy : (mkAt s c e k).getD k 0 = y at *
                have HY := Lib.hid hy; clear hy
                generalize hz : (mkAt s c e k).getD (k + 1) 0 = z at *
                have HZ := Lib.hid hz; clear hz
                go_wp2
                go_roundw
                case rel =>
                  refine ⟨k + 1, hlt, by go_num, (h1.far (by exact hne) _).far (by exact hne) _, ?_, (hx.setCell (by exact hg) _).setCell (by exact hg) _⟩
                  have K := HK.out
                  rw [← K, ← u8s_set, ← u8s_set, ← or2, ← or1]
                  exact (h2.set k _).set (k + 1) _
                case measure => simp [intOf]; omega
              · have hb3 : ((s[k].toNat : Int) == 10) = false := by rw [beq_eq_false_iff_ne]; omega
                have HK := Lib.hid (mkAt_miss s c e k (by rw [getD_byte s k hlt]; intro h; exact hb (by rw [h]; rfl)))
                clear hb
                go_wp2
                go_roundw
                case rel =>
                  refine ⟨k + 1, hlt, by go_num, h1, ?_, hx⟩
                  rw [← HK.out]; exact h2
                case measure => simp [intOf]; omega
            · have hb2 : (bits .and .i64 c 4 != 0) = false := by simpa using hb1
              have HC := Lib.hid hb1
              clear hb1
              go_wp2
              go_ret
              exact ⟨⟨_, rfl, g, g', rfl, by simpa using h1, by rw [mkAt_off s c e s.size k HC.out]; exact h2⟩, hx⟩
          · have hks : k = s.size := by omega
            have HKS := Lib.hid hks; clear hks
            go_wp2
            go_ret
            exact ⟨⟨_, rfl, g, g', rfl, by simpa using h1, by rw [← HKS.out]; exact h2⟩, hx⟩

/-- What Marks answers. -/
def sMark (m : List UInt8) (i : Int) : Int := if 0 ≤ i ∧ i < m.length then ((m.getD i.toNat 0).toNat : Int) else 0

set_option maxHeartbeats 400000 in
theorem marks_any (p : Value) (s : ByteArray) (m : List UInt8) (i : Int) (w : World) (_hm : m.length ≤ 10000000) (h : IsScene w p s m) :
    Calls Tryz.prog 50 #[p, .int .i64 i] w fun r w' => r = .returned (.int .i64 (sMark m i)) ∧ w = w' := by
  obtain ⟨g, g', rfl, h1, h2⟩ := h
  have c1 := h1.cell 1
  simp at c1
  by_cases h0 : 0 ≤ i
  · obtain ⟨n, rfl⟩ := Int.eq_ofNat_of_zero_le h0
    have h0b : decide ((n : Int) < 0) = false := by simp
    by_cases hn : n < m.length
    · have c2 := h2.cell n
      rw [u8s_get _ _ hn] at c2
      have hf : sMark m n = ((m.getD n 0).toNat : Int) := by unfold sMark; rw [if_pos ⟨h0, by omega⟩, Int.toNat_natCast]
      have Hf := Lib.hid hf; clear hf
      generalize m.getD n 0 = y at *
      go_enter Tryz.func50, Tryz.ntmps50
      go_wp2
      go_ret
      exact ⟨ret_int (by rw [Hf.out]; exact wrap64_b _), rfl⟩
    · have hf : sMark m n = 0 := by unfold sMark; rw [if_neg (by omega)]
      have Hf := Lib.hid hf; clear hf
      go_enter Tryz.func50, Tryz.ntmps50
      go_wp2
      go_ret
      exact ⟨ret_int (by rw [Hf.out]), rfl⟩
  · have h0b : decide (i < 0) = true := by simp; omega
    have hf : sMark m i = 0 := by unfold sMark; rw [if_neg (by omega)]
    have Hf := Lib.hid hf; clear hf
    go_enter Tryz.func50, Tryz.ntmps50
    go_wp2
    go_ret
    exact ⟨ret_int (by rw [Hf.out]), rfl⟩

def sBegin (m : List UInt8) (i : Int) : Bool := bits .and .i64 (sMark m i) 1 != 0
def sEnd (m : List UInt8) (i : Int) : Bool := bits .and .i64 (sMark m i) 2 != 0

set_option maxHeartbeats 400000 in
theorem len_any (p : Value) (s : ByteArray) (m : List UInt8) (w : World) (h : IsScene w p s m) :
    Calls Tryz.prog 24 #[p] w fun r w' => r = .returned (.int .i64 s.size) ∧ w = w' := by
  obtain ⟨g, g', rfl, h1, h2⟩ := h
  have c1 := h1.cell 0
  simp at c1
  go_enter Tryz.func24, Tryz.ntmps24
  go_wp2
  go_ret
  exact ⟨rfl, rfl⟩

/-- What Byte answers: the byte, and whether there is one. -/
def sByte (s : ByteArray) (i : Int) : Int := if 0 ≤ i ∧ i < s.size then ((s.data.toList.getD i.toNat 0).toNat : Int) else 0
def sHas (s : ByteArray) (i : Int) : Bool := decide (0 ≤ i ∧ i < s.size)

set_option maxHeartbeats 400000 in
theorem byte_any (p : Value) (s : ByteArray) (m : List UInt8) (i : Int) (w : World) (h : IsScene w p s m) :
    Calls Tryz.prog 46 #[p, .int .i64 i] w fun r w' => r = .returned (.tuple #[.int .u8 (sByte s i), .bool (sHas s i)]) ∧ w = w' := by
  obtain ⟨g, g', rfl, h1, h2⟩ := h
  have c1 := h1.cell 0
  simp at c1
  by_cases h0 : 0 ≤ i
  · have h0b : decide (i < 0) = false := by simpa using h0
    by_cases hn : i < s.size
    · have hn' : i.toNat < s.size := by omega
      have hf : sByte s i = (s[i.toNat].toNat : Int) := by unfold sByte; rw [if_pos ⟨h0, hn⟩, getD_byte s _ hn']
      have Hf := Lib.hid hf; clear hf
      have hg : sHas s i = true := by unfold sHas; simp; omega
      have Hg := Lib.hid hg; clear hg
      go_enter Tryz.func46, Tryz.ntmps46
      go_wp2
      go_ret2
      exact ⟨by rw [Hf.out, Hg.out]; rfl, rfl⟩
    · have hf : sByte s i = 0 := by unfold sByte; rw [if_neg (by omega)]
      have Hf := Lib.hid hf; clear hf
      have hg : sHas s i = false := by unfold sHas; simp; omega
      have Hg := Lib.hid hg; clear hg
      go_enter Tryz.func46, Tryz.ntmps46
      go_wp2
      go_ret2
      exact ⟨by rw [Hf.out, Hg.out]; rfl, rfl⟩
  · have h0b : decide (i < 0) = true := by simp; omega
    have hf : sByte s i = 0 := by unfold sByte; rw [if_neg (by omega)]
    have Hf := Lib.hid hf; clear hf
    have hg : sHas s i = false := by unfold sHas; simp; omega
    have Hg := Lib.hid hg; clear hg
    go_enter Tryz.func46, Tryz.ntmps46
    go_wp2
    go_ret2
    exact ⟨by rw [Hf.out, Hg.out]; rfl, rfl⟩

end Go.Proofs.YtgfknlkpdiejgaaGreatDoor

namespace Go.Proofs.YtgfknlkpdiejgaaGreatDoor
open Go.RowKit

/-- Is a flag on? -/
def bq (a b : Int) : Bool := bits .and .i64 a b != 0
def srBegin (s : ByteArray) (c e i : Int) : Bool :=
  if i = 0 then !bq e 1 else if 0 < i ∧ i ≤ s.size then bq c 4 && ((s.data.toList.getD (i.toNat - 1) 0).toNat : Int) == 10 else false
def srEnd (s : ByteArray) (c e i : Int) : Bool :=
  if i = s.size then !bq e 2 else if 0 ≤ i ∧ i < s.size then bq c 4 && ((s.data.toList.getD i.toNat 0).toNat : Int) == 10 else false
def srIn (s : ByteArray) (i : Int) : Bool := decide (0 ≤ i ∧ i ≤ s.size)
def srPlace (s : ByteArray) (t : Bool) (i : Int) : Int := if t then s.size - i else i
def srB (s : ByteArray) (c e : Int) (t : Bool) (i : Int) : Bool :=
  if srIn s i then (if t then srEnd s c e (s.size - i) else srBegin s c e i) else false
def srE (s : ByteArray) (c e : Int) (t : Bool) (i : Int) : Bool :=
  if srIn s i then (if t then srBegin s c e (s.size - i) else srEnd s c e i) else false
def srMarks (s : ByteArray) (c e : Int) (t : Bool) (i : Int) : Int := (if srB s c e t i then 1 else 0) + (if srE s c e t i then 2 else 0)
def srByte (s : ByteArray) (t : Bool) (i : Int) : Int :=
  if 0 ≤ i ∧ i < s.size then (if t then (s.data.toList.getD (s.size - 1 - i.toNat) 0).toNat else (s.data.toList.getD i.toNat 0).toNat) else -1
def srV (s : ByteArray) (c e : Int) (t : Bool) : Value := .agg #[.string s, .int .i64 c, .int .i64 e, .bool t]

theorem getD_bytes (s : ByteArray) (k : Nat) (h : k < s.size) : s.data.toList.getD k 0 = s[k] := by
  have : k < s.data.toList.length := by simpa using h
  rw [List.getD_eq_getElem?_getD, List.getElem?_eq_getElem this]
  rfl

set_option maxHeartbeats 400000 in
theorem bit_any (a b : Int) (w : World) : Calls Tryz.prog 97 #[.int .i64 a, .int .i64 b] w fun e w' => e = .returned (.bool (bq a b)) ∧ w = w' := by
  go_enter Tryz.func97, Tryz.ntmps97
  go_wp2
  go_ret
  exact ⟨rfl, rfl⟩

set_option maxHeartbeats 400000 in
theorem rplace_any (s : ByteArray) (c e : Int) (t : Bool) (i : Int) (w : World) (hs : s.size ≤ 1000000) (h0 : 0 ≤ i) (h1 : i ≤ s.size) :
    Calls Tryz.prog 95 #[srV s c e t, .int .i64 i] w fun r w' => r = .returned (.int .i64 (srPlace s t i)) ∧ Ext w w' := by
  unfold srV srPlace
  cases t
  all_goals
    go_enter Tryz.func95, Tryz.ntmps95
    go_wp2
    go_ret
    exact ⟨rfl, (Ext.refl w).alloc _⟩

set_option maxHeartbeats 400000 in
theorem rin_any (s : ByteArray) (c e : Int) (t : Bool) (i : Int) (w : World) :
    Calls Tryz.prog 93 #[srV s c e t, .int .i64 i] w fun r w' => r = .returned (.bool (srIn s i)) ∧ Ext w w' := by
  unfold srV srIn
  by_cases h0 : 0 ≤ i
  · go_enter Tryz.func93, Tryz.ntmps93
    go_wp2
    go_ret
    exact ⟨ret_bool (by simp [h0]), (Ext.refl w).alloc _⟩
  · have h0' : decide (0 ≤ i) = false := by simpa using h0
    go_enter Tryz.func93, Tryz.ntmps93
    go_wp2
    go_ret
    exact ⟨ret_bool (by simp), (Ext.refl w).alloc _⟩

set_option maxHeartbeats 1000000 in
theorem rbegin_any (s : ByteArray) (c e : Int) (t : Bool) (i : Int) (w : World) (hs : s.size ≤ 1000000) :
    Calls Tryz.prog 96 #[srV s c e t, .int .i64 i] w fun r w' => r = .returned (.bool (srBegin s c e i)) ∧ Ext w w' := by
  unfold srV
  by_cases h0 : i = 0
  · subst h0
    go_enter Tryz.func96, Tryz.ntmps96
    go_wp2_with (go_at_call 97; refine (bit_any _ _ _).mono ?_; rintro e w' ⟨rfl, rfl⟩)
    go_ret
    exact ⟨ret_bool (by simp [srBegin]), (Ext.refl w).alloc _⟩
  · by_cases h1 : 0 < i
    · by_cases h2 : i ≤ s.size
      · have hs1 : i.toNat - 1 < s.size := by omega
        have hg := getD_bytes s _ hs1
        have hf : srBegin s c e i = (bq c 4 && ((s[i.toNat - 1].toNat : Int) == 10)) := by
          unfold srBegin; rw [if_neg h0, if_pos ⟨h1, h2⟩, hg]
        have Hf := Lib.hid hf; clear hf hg
        have hi1 : (i - 1).toNat = i.toNat - 1 := by omega
        have h1b : decide (0 < i) = true := by simpa using h1
        have h2b : decide (i ≤ (s.size : Int)) = true := by simpa using h2
        cases hb : bq c 4
        · go_enter Tryz.func96, Tryz.ntmps96
          go_wp2_with (go_at_call 97; refine (bit_any _ _ _).mono ?_; rintro e w' ⟨rfl, rfl⟩)
          go_ret
          exact ⟨ret_bool (by rw [Hf.out, hb]; rfl), (Ext.refl w).alloc _⟩
        · go_enter Tryz.func96, Tryz.ntmps96
          go_wp2_with (go_at_call 97; refine (bit_any _ _ _).mono ?_; rintro e w' ⟨rfl, rfl⟩)
          go_ret
          exact ⟨ret_bool (by rw [Hf.out, hb]; rfl), (Ext.refl w).alloc _⟩
      · have hf : srBegin s c e i = false := by
          unfold srBegin; rw [if_neg h0, if_neg (fun h => h2 h.2)]
        have Hf := Lib.hid hf; clear hf
        have h1b : decide (0 < i) = true := by simpa using h1
        have h2b : decide (i ≤ (s.size : Int)) = false := by simpa using h2
        go_enter Tryz.func96, Tryz.ntmps96
        go_wp2_with (go_at_call 97; refine (bit_any _ _ _).mono ?_; rintro e w' ⟨rfl, rfl⟩)
        go_ret
        exact ⟨ret_bool (by rw [Hf.out]), (Ext.refl w).alloc _⟩
    · have hf : srBegin s c e i = false := by
        unfold srBegin; rw [if_neg h0, if_neg (fun h => h1 h.1)]
      have Hf := Lib.hid hf; clear hf
      have h1b : decide (0 < i) = false := by simpa using h1
      go_enter Tryz.func96, Tryz.ntmps96
      go_wp2_with (go_at_call 97; refine (bit_any _ _ _).mono ?_; rintro e w' ⟨rfl, rfl⟩)
      go_ret
      exact ⟨ret_bool (by rw [Hf.out]), (Ext.refl w).alloc _⟩

set_option maxHeartbeats 1000000 in
theorem rend_any (s : ByteArray) (c e : Int) (t : Bool) (i : Int) (w : World) :
    Calls Tryz.prog 94 #[srV s c e t, .int .i64 i] w fun r w' => r = .returned (.bool (srEnd s c e i)) ∧ Ext w w' := by
  unfold srV
  by_cases h0 : i = s.size
  · subst h0
    go_enter Tryz.func94, Tryz.ntmps94
    go_wp2_with (go_at_call 97; refine (bit_any _ _ _).mono ?_; rintro e w' ⟨rfl, rfl⟩)
    go_ret
    exact ⟨ret_bool (by simp [srEnd]), (Ext.refl w).alloc _⟩
  · have h0b : (i == (s.size : Int)) = false := by simpa using h0
    by_cases h1 : 0 ≤ i
    · by_cases h2 : i < s.size
      · have hs1 : i.toNat < s.size := by omega
        have hg := getD_bytes s _ hs1
        have hf : srEnd s c e i = (bq c 4 && ((s[i.toNat].toNat : Int) == 10)) := by
          unfold srEnd; rw [if_neg h0, if_pos ⟨h1, h2⟩, hg]
        have Hf := Lib.hid hf; clear hf hg
        have h1b : decide (0 ≤ i) = true := by simpa using h1
        have h2b : decide (i < (s.size : Int)) = true := by simpa using h2
        cases hb : bq c 4
        · go_enter Tryz.func94, Tryz.ntmps94
          go_wp2_with (go_at_call 97; refine (bit_any _ _ _).mono ?_; rintro e w' ⟨rfl, rfl⟩)
          go_ret
          exact ⟨ret_bool (by rw [Hf.out, hb]; rfl), (Ext.refl w).alloc _⟩
        · go_enter Tryz.func94, Tryz.ntmps94
          go_wp2_with (go_at_call 97; refine (bit_any _ _ _).mono ?_; rintro e w' ⟨rfl, rfl⟩)
          go_ret
          exact ⟨ret_bool (by rw [Hf.out, hb]; rfl), (Ext.refl w).alloc _⟩
      · have hf : srEnd s c e i = false := by
          unfold srEnd; rw [if_neg h0, if_neg (fun h => h2 h.2)]
        have Hf := Lib.hid hf; clear hf
        have h1b : decide (0 ≤ i) = true := by simpa using h1
        have h2b : decide (i < (s.size : Int)) = false := by simpa using h2
        go_enter Tryz.func94, Tryz.ntmps94
        go_wp2_with (go_at_call 97; refine (bit_any _ _ _).mono ?_; rintro e w' ⟨rfl, rfl⟩)
        go_ret
        exact ⟨ret_bool (by rw [Hf.out]), (Ext.refl w).alloc _⟩
    · have hf : srEnd s c e i = false := by
        unfold srEnd; rw [if_neg h0, if_neg (fun h => h1 h.1)]
      have Hf := Lib.hid hf; clear hf
      have h1b : decide (0 ≤ i) = false := by simpa using h1
      go_enter Tryz.func94, Tryz.ntmps94
      go_wp2_with (go_at_call 97; refine (bit_any _ _ _).mono ?_; rintro e w' ⟨rfl, rfl⟩)
      go_ret
      exact ⟨ret_bool (by rw [Hf.out]), (Ext.refl w).alloc _⟩

set_option maxHeartbeats 1000000 in
theorem rBegin_any (s : ByteArray) (c e : Int) (t : Bool) (i : Int) (w : World) (hs : s.size ≤ 1000000) :
    Calls Tryz.prog 89 #[srV s c e t, .int .i64 i] w fun r w' => r = .returned (.bool (srB s c e t i)) ∧ Ext w w' := by
  unfold srV
  cases hin : srIn s i
  · have hf : srB s c e t i = false := by unfold srB; rw [hin]; rfl
    have Hf := Lib.hid hf; clear hf
    go_enter Tryz.func89, Tryz.ntmps89
    go_wp2_with (go_at_call 93; refine (rin_any s c e t i _).mono ?_; rintro e w' ⟨rfl, hx⟩)
    go_ret
    exact ⟨ret_bool (by rw [Hf.out]), ((Ext.refl w).alloc _).trans hx⟩
  · have h0 : 0 ≤ i ∧ i ≤ s.size := by simpa [srIn] using hin
    obtain ⟨h1, h2⟩ := h0
    cases t
    · have hf : srB s c e false i = srBegin s c e i := by unfold srB; rw [hin]; rfl
      have Hf := Lib.hid hf; clear hf
      go_enter Tryz.func89, Tryz.ntmps89
      go_wp2_with (first
        | (go_at_call 93; refine (rin_any s c e false i _).mono ?_; rintro e w1 ⟨rfl, hx⟩; have k4 := box4 hx)
        | (go_at_call 96; refine (rbegin_any s c e false _ _ hs).mono ?_; rintro e w2 ⟨rfl, hx2⟩))
      go_ret
      exact ⟨ret_bool (by rw [Hf.out]), (((Ext.refl w).alloc _).trans hx).trans hx2⟩
    · have hf : srB s c e true i = srEnd s c e (s.size - i) := by unfold srB; rw [hin]; rfl
      have Hf := Lib.hid hf; clear hf
      go_enter Tryz.func89, Tryz.ntmps89
      go_wp2_with (go_at_call 93; refine (rin_any s c e true i _).mono ?_; rintro e w1 ⟨rfl, hx⟩; have k4 := box4 hx)
      have k4p := box4p hx
      clear k4
      refine wp_region_plus (by kernel_rfl) (by kernel_rfl) ?_
      repeat (quiet_step ((first
        | (go_at_call 95; exact Calls.plus_of (rplace_any s c e true i _ hs h1 h2))
        | (go_at_call 94; exact Calls.plus_of (rend_any s c e true _ _)))))
      refine wpQuiet_nil ?_
      intro y
      go_wp2
      go_ret
      exact ⟨ret_bool (by rw [Hf.out]; rfl), (((Ext.refl w).alloc _).trans hx).trans (plus_ext _ y)⟩
set_option maxHeartbeats 1000000 in
theorem rEnd_any (s : ByteArray) (c e : Int) (t : Bool) (i : Int) (w : World) (hs : s.size ≤ 1000000) :
    Calls Tryz.prog 90 #[srV s c e t, .int .i64 i] w fun r w' => r = .returned (.bool (srE s c e t i)) ∧ Ext w w' := by
  unfold srV
  cases hin : srIn s i
  · have hf : srE s c e t i = false := by unfold srE; rw [hin]; rfl
    have Hf := Lib.hid hf; clear hf
    go_enter Tryz.func90, Tryz.ntmps90
    go_wp2_with (go_at_call 93; refine (rin_any s c e t i _).mono ?_; rintro e w' ⟨rfl, hx⟩)
    go_ret
    exact ⟨ret_bool (by rw [Hf.out]), ((Ext.refl w).alloc _).trans hx⟩
  · have h0 : 0 ≤ i ∧ i ≤ s.size := by simpa [srIn] using hin
    obtain ⟨h1, h2⟩ := h0
    cases t
    · have hf : srE s c e false i = srEnd s c e i := by unfold srE; rw [hin]; rfl
      have Hf := Lib.hid hf; clear hf
      go_enter Tryz.func90, Tryz.ntmps90
      go_wp2_with (first
        | (go_at_call 93; refine (rin_any s c e false i _).mono ?_; rintro e w1 ⟨rfl, hx⟩; have k4 := box4 hx)
        | (go_at_call 94; refine (rend_any s c e false _ _).mono ?_; rintro e w2 ⟨rfl, hx2⟩))
      go_ret
      exact ⟨ret_bool (by rw [Hf.out]), (((Ext.refl w).alloc _).trans hx).trans hx2⟩
    · have hf : srE s c e true i = srBegin s c e (s.size - i) := by unfold srE; rw [hin]; rfl
      have Hf := Lib.hid hf; clear hf
      go_enter Tryz.func90, Tryz.ntmps90
      go_wp2_with (go_at_call 93; refine (rin_any s c e true i _).mono ?_; rintro e w1 ⟨rfl, hx⟩; have k4 := box4 hx)
      have k4p := box4p hx
      clear k4
      refine wp_region_plus (by kernel_rfl) (by kernel_rfl) ?_
      repeat (quiet_step ((first
        | (go_at_call 95; exact Calls.plus_of (rplace_any s c e true i _ hs h1 h2))
        | (go_at_call 96; exact Calls.plus_of (rbegin_any s c e true _ _ hs)))))
      refine wpQuiet_nil ?_
      intro y
      go_wp2
      go_ret
      exact ⟨ret_bool (by rw [Hf.out]; rfl), (((Ext.refl w).alloc _).trans hx).trans (plus_ext _ y)⟩

set_option maxHeartbeats 1000000 in
theorem rByte_any (s : ByteArray) (c e : Int) (t : Bool) (i : Int) (w : World) (hs : s.size ≤ 1000000) :
    Calls Tryz.prog 87 #[srV s c e t, .int .i64 i] w fun r w' => r = .returned (.int .i64 (srByte s t i)) ∧ Ext w w' := by
  unfold srV
  by_cases h0 : 0 ≤ i
  · have h0b : decide (i < 0) = false := by simpa using h0
    by_cases h1 : i < s.size
    · have h1b : decide ((s.size : Int) ≤ i) = false := by simpa using h1
      cases t
      · have hs1 : i.toNat < s.size := by omega
        have hf : srByte s false i = (s[i.toNat].toNat : Int) := by
          unfold srByte; rw [if_pos ⟨h0, h1⟩, getD_bytes s _ hs1]; rfl
        have Hf := Lib.hid hf; clear hf
        go_enter Tryz.func87, Tryz.ntmps87
        go_wp2
        go_ret
        exact ⟨ret_int (by rw [Hf.out]; exact wrap64_b _), (Ext.refl w).alloc _⟩
      · have hs1 : s.size - 1 - i.toNat < s.size := by omega
        have hi1 : ((s.size : Int) - 1 - i).toNat = s.size - 1 - i.toNat := by omega
        have hi2 : (0 : Int) ≤ (s.size : Int) - 1 - i := by omega
        have hi3 : (s.size : Int) - 1 - i < s.size := by omega
        have hf : srByte s true i = (s[s.size - 1 - i.toNat].toNat : Int) := by
          unfold srByte; rw [if_pos ⟨h0, h1⟩, getD_bytes s _ hs1]; rfl
        have Hf := Lib.hid hf; clear hf
        go_enter Tryz.func87, Tryz.ntmps87
        go_wp2
        go_ret
        exact ⟨ret_int (by rw [Hf.out]; exact wrap64_b _), (Ext.refl w).alloc _⟩
    · have h1b : decide ((s.size : Int) ≤ i) = true := by simp; omega
      have hf : srByte s t i = -1 := by unfold srByte; rw [if_neg (fun h => h1 h.2)]
      have Hf := Lib.hid hf; clear hf
      go_enter Tryz.func87, Tryz.ntmps87
      go_wp2
      go_ret
      exact ⟨ret_int (by rw [Hf.out]), (Ext.refl w).alloc _⟩
  · have h0b : decide (i < 0) = true := by simp; omega
    have hf : srByte s t i = -1 := by unfold srByte; rw [if_neg (fun h => h0 h.1)]
    have Hf := Lib.hid hf; clear hf
    go_enter Tryz.func87, Tryz.ntmps87
    go_wp2
    go_ret
    exact ⟨ret_int (by rw [Hf.out]), (Ext.refl w).alloc _⟩

end Go.Proofs.YtgfknlkpdiejgaaGreatDoor

namespace Go.Proofs.YtgfknlkpdiejgaaGreatDoor
open Go.RowKit

/-- The two bits change places. -/
def swp (v : UInt8) : UInt8 := v >>> 1 ||| (v &&& 1) <<< 1
theorem swp_mk (b e : Bool) : swp (mk b e) = mk e b := by cases b <;> cases e <;> rfl
theorem swp_bits (z : UInt8) : bits .or .u8 ((z.toNat : Int) / 2) (bits .and .u8 (z.toNat : Int) 1 * 2 % 256) = ((swp z).toNat : Int) := by
  have h1 := u8_and_nat z.toNat 1 z.toNat_lt (by decide)
  have e1 : bits .and .u8 (z.toNat : Int) 1 = ((z.toNat &&& 1 : Nat) : Int) := h1
  rw [e1]
  have hz := z.toNat_lt
  have hb : z.toNat &&& 1 < 2 := by rw [nat_mask1]; omega
  have e2 : ((z.toNat : Int) / 2) = ((z.toNat / 2 : Nat) : Int) := by omega
  have e3 : (((z.toNat &&& 1 : Nat) : Int) * 2 % 256) = (((z.toNat &&& 1) * 2 : Nat) : Int) := by omega
  rw [e2, e3, u8_or_nat _ _ (by omega) (by omega)]
  congr 1
  unfold swp
  simp only [UInt8.toNat_or, UInt8.toNat_shiftRight, UInt8.toNat_shiftLeft, UInt8.toNat_and]
  have e4 : (1 : UInt8).toNat = 1 := rfl
  rw [e4]
  simp only [Nat.shiftRight_eq_div_pow, Nat.shiftLeft_eq]
  have e5 : (z.toNat &&& 1) * 2 ^ (1 % 8) % 2 ^ 8 = (z.toNat &&& 1) * 2 := by
    rw [Nat.mod_eq_of_lt]
    have : (2 : Nat) ^ (1 % 8) = 2 := rfl
    rw [this]; omega
  rw [e5]
def turnS (s : ByteArray) : ByteArray := ⟨s.data.toList.reverse.toArray⟩
def turnM (m : List UInt8) : List UInt8 := (m.map swp).reverse
@[simp] theorem turnS_size (s : ByteArray) : (turnS s).size = s.size := by
  show (s.data.toList.reverse.toArray).size = s.data.size
  simp
@[simp] theorem turnM_len (m : List UInt8) : (turnM m).length = m.length := by simp [turnM]

/-- A row filled from its end: what is there after k rounds. -/
def backTo (n k : Nat) (l : List UInt8) : List UInt8 := List.replicate (n - k) 0 ++ (l.take k).reverse
theorem backTo_len (n k : Nat) (l : List UInt8) (h : k ≤ n) (hl : l.length = n) : (backTo n k l).length = n := by simp [backTo]; omega
theorem backTo_zero (n : Nat) (l : List UInt8) : backTo n 0 l = List.replicate n 0 := by simp [backTo]
theorem backTo_full (l : List UInt8) (n : Nat) (h : n = l.length) : backTo n n l = l.reverse := by subst h; simp [backTo]
theorem backTo_step (n k : Nat) (l : List UInt8) (hk : k < n) (hl : l.length = n) : (backTo n k l).set (n - 1 - k) (l.getD k 0) = backTo n (k + 1) l := by
  unfold backTo
  have h1 : n - k = (n - 1 - k) + 1 := by omega
  have h2 : n - (k + 1) = n - 1 - k := by omega
  rw [h1, h2, List.set_append_left _ _ (by simp)]
  have h3 : (List.replicate ((n - 1 - k) + 1) (0 : UInt8)).set (n - 1 - k) (l.getD k 0) = List.replicate (n - 1 - k) 0 ++ [l.getD k 0] := by
    rw [List.replicate_succ', List.set_append_right _ _ (by simp)]
    simp
  rw [h3, List.take_succ_eq_append_getElem (by omega), List.reverse_append, List.append_assoc]
  simp [List.getD_eq_getElem?_getD, List.getElem?_eq_getElem (show k < l.length by omega)]

end Go.Proofs.YtgfknlkpdiejgaaGreatDoor
