/- Parses in plain words; how a parse lies in memory. No program. -/
import Derived.Test.YthddlhpndaffjaaDoorLib
namespace Go.Proofs.YthddlhpndaffjaaDoor
open Go Go.RowKit

structure Pd where
  a : Int
  b : Int
  k : Int
inductive Ps where
  | mk (d : Pd) (subs : List Ps)
def Ps.d : Ps → Pd | .mk d _ => d
def Ps.subs : Ps → List Ps | .mk _ s => s
instance : Inhabited Ps := ⟨.mk ⟨0, 0, 0⟩ []⟩
/-- A parse's cells; sv: its list. -/
def psC (d : Pd) (sv : Value) : List Value := [.int .i64 d.a, .int .i64 d.b, .int .i64 d.k, sv]
mutual
def PsOk (W : World) : Ps → Value → Prop
  | .mk _ subs, sv => ∃ A c, sv = .slice A subs.length c ∧ PssOk W subs A 0
def PssOk (W : World) : List Ps → Option Addr → Nat → Prop
  | [], _, _ => True
  | n :: r, A, k => (∃ g o sv, A = some ⟨g, o, none⟩ ∧ (∀ i, i < 4 → W.cell? ⟨g, o + k * 4 + i, none⟩ = (psC n.d sv)[i]?) ∧ PsOk W n sv) ∧ PssOk W r A (k + 1)
end
mutual
theorem PsOk.ext {W W' : World} (hx : Ext W W') : ∀ (n : Ps) (sv : Value), PsOk W n sv → PsOk W' n sv
  | .mk _ subs, _ => fun ⟨A, c, h1, h2⟩ => ⟨A, c, h1, PssOk.ext hx subs A 0 h2⟩
theorem PssOk.ext {W W' : World} (hx : Ext W W') : ∀ (l : List Ps) (A : Option Addr) (k : Nat), PssOk W l A k → PssOk W' l A k
  | [], _, _ => fun _ => trivial
  | n :: r, A, k => fun ⟨⟨g, o, sv, h1, h2, h3⟩, h4⟩ => ⟨⟨g, o, sv, h1, fun i hi => (by
      have e := h2 i hi
      have hs : (psC n.d sv)[i]? = some (psC n.d sv)[i] := List.getElem?_eq_getElem (by simpa [psC] using hi)
      rw [hs] at e ⊢
      exact hx.cell e), PsOk.ext hx n sv h3⟩, PssOk.ext hx r A (k + 1) h4⟩
end
theorem PssOk.of {W : World} {A : Option Addr} : ∀ {l : List Ps} {k : Nat}, (∀ j (hj : j < l.length), ∃ g o sv, A = some ⟨g, o, none⟩ ∧ (∀ i, i < 4 → W.cell? ⟨g, o + (k + j) * 4 + i, none⟩ = (psC (l[j]).d sv)[i]?) ∧ PsOk W l[j] sv) → PssOk W l A k
  | [], _, _ => trivial
  | n :: r, k, h => ⟨h 0 (by simp), PssOk.of (k := k + 1) fun j hj => by
    obtain ⟨g, o, sv, h3, h4, h5⟩ := h (j + 1) (by simpa using hj)
    refine ⟨g, o, sv, h3, fun i hi => ?_, h5⟩
    rw [show k + 1 + j = k + (j + 1) by omega]
    exact h4 i hi⟩
/-- A parse's four cells lie here. -/
def PsAt (w : World) (g o : Nat) (d : Pd) (sv : Value) : Prop := ∀ i, i < 4 → w.cell? ⟨g, o + i, none⟩ = (psC d sv)[i]?
theorem PsAt.ext {w w' : World} {g o : Nat} {d : Pd} {sv : Value} (hn : PsAt w g o d sv) (hx : Ext w w') : PsAt w' g o d sv := fun i hi => by
  have hs : (psC d sv)[i]? = some (psC d sv)[i] := List.getElem?_eq_getElem (by simpa [psC] using hi)
  have := hn i hi
  rw [hs] at this ⊢
  exact hx.cell this
theorem PsAt.drew {w : World} {g o : Nat} {d : Pd} {sv : Value} (hn : PsAt w g o d sv) : PsAt w.drew g o d sv := fun i hi => hn i hi
theorem PssOk.get {W : World} : ∀ {l : List Ps} {A : Option Addr} {k : Nat}, PssOk W l A k → ∀ j (hj : j < l.length), ∃ g o sv, A = some ⟨g, o, none⟩ ∧ PsAt W g (o + (k + j) * 4) (l[j]).d sv ∧ PsOk W l[j] sv
  | [], _, _, _, j, hj => absurd hj (Nat.not_lt_zero _)
  | _ :: _, _, _, ⟨h1, _⟩, 0, _ => h1
  | _ :: r, A, k, ⟨_, h2⟩, j + 1, hj => by
    obtain ⟨g, o, sv, h3, h4, h5⟩ := PssOk.get h2 j (by simpa using hj)
    refine ⟨g, o, sv, h3, ?_, h5⟩
    rw [show k + (j + 1) = k + 1 + j by omega]
    exact h4
theorem PsOk.shape {W : World} {n : Ps} {sv : Value} (h : PsOk W n sv) : ∃ A c, sv = .slice A n.subs.length c := by
  obtain ⟨d, s⟩ := n
  obtain ⟨A, c, h, _⟩ := h
  exact ⟨A, c, h⟩
theorem PsOk.get {W : World} {d : Pd} {subs : List Ps} {A : Option Addr} {n c : Nat} (hn : PsOk W (.mk d subs) (.slice A n c)) (k : Nat) (hk : k < subs.length) :
    ∃ g o sv, A = some ⟨g, o, none⟩ ∧ PsAt W g (o + k * 4) (subs[k]).d sv ∧ PsOk W subs[k] sv := by
  unfold PsOk at hn
  obtain ⟨A', c', e, hs⟩ := hn
  injection e with e1 e2 e3
  subst e1
  have := hs.get k hk
  rwa [Nat.zero_add] at this
theorem Ps.ind {p : Ps → Prop} (h : ∀ d subs, (∀ n ∈ subs, p n) → p (.mk d subs)) : ∀ n, p n := fun n => by
  refine Ps.rec (motive_1 := p) (motive_2 := fun l => ∀ n ∈ l, p n) (fun d subs ih => h d subs ih) (fun n hn => by cases hn) (fun a l ha hl n hn => ?_) n
  rcases List.mem_cons.1 hn with rfl | hn
  · exact ha
  · exact hl n hn
/-- A parse as a value. -/
def psV (d : Pd) (sv : Value) : Value := .agg #[.int .i64 d.a, .int .i64 d.b, .int .i64 d.k, sv]
def psA (d : Pd) (sv : Value) : Array Value := (psC d sv).toArray
theorem psV_eq (d : Pd) (sv : Value) : psV d sv = .agg (psA d sv) := rfl
theorem Blk.ps {w : World} {g : Nat} {t : TypeId} {d : Pd} {sv : Value} (hb : Blk w g t (psA d sv)) : PsAt w g 0 d sv := fun i _ => by
  rw [Nat.zero_add, hb.cell]; simp [psA]
theorem ps_cells {w W : World} {g k : Nat} {d : Pd} {sv : Value} (hc : PsAt w g k d sv) (hx : Ext w W) :
    W.cell? ⟨g, k, none⟩ = some (.int .i64 d.a) ∧ W.cell? ⟨g, k + 1, none⟩ = some (.int .i64 d.b) ∧ W.cell? ⟨g, k + 2, none⟩ = some (.int .i64 d.k) ∧ W.cell? ⟨g, k + 3, none⟩ = some sv :=
  ⟨hx.cell (hc 0 (by omega)), hx.cell (hc 1 (by omega)), hx.cell (hc 2 (by omega)), hx.cell (hc 3 (by omega))⟩

/-! ### few -/
mutual
def pleftN : Ps → Int → Int
  | .mk _ subs, m => pleftL subs (m - 1)
def pleftL : List Ps → Int → Int
  | [], m => m
  | n :: r, m => if 0 ≤ m then pleftL r (pleftN n m) else m
end
theorem pleftL_neg : ∀ (l : List Ps) (m : Int), m < 0 → pleftL l m = m
  | [], _, _ => rfl
  | _ :: _, m, h => by unfold pleftL; rw [if_neg (by omega)]
theorem pleftL_app : ∀ (a b : List Ps) (m : Int), pleftL (a ++ b) m = pleftL b (pleftL a m)
  | [], _, _ => rfl
  | n :: a, b, m => by
    show pleftL (n :: (a ++ b)) m = pleftL b (pleftL (n :: a) m)
    by_cases h : 0 ≤ m
    · rw [show pleftL (n :: (a ++ b)) m = pleftL (a ++ b) (pleftN n m) by rw [pleftL, if_pos h], show pleftL (n :: a) m = pleftL a (pleftN n m) by rw [pleftL, if_pos h]]
      exact pleftL_app a b _
    · rw [pleftL_neg _ _ (by omega), pleftL_neg (n :: a) _ (by omega), pleftL_neg _ _ (by omega)]
theorem pleftL_one (n : Ps) (m : Int) (h : 0 ≤ m) : pleftL [n] m = pleftN n m := by rw [pleftL, if_pos h, pleftL]
mutual
theorem pleftN_range : ∀ (n : Ps) (m : Int), 0 ≤ m → -1 ≤ pleftN n m ∧ pleftN n m < m
  | .mk _ subs, m, h => by
    have := pleftL_range subs (m - 1) (by omega)
    unfold pleftN
    omega
theorem pleftL_range : ∀ (l : List Ps) (m : Int), -1 ≤ m → -1 ≤ pleftL l m ∧ pleftL l m ≤ m
  | [], m, h => by unfold pleftL; omega
  | n :: r, m, h => by
    unfold pleftL
    split
    · rename_i h0
      have h1 := pleftN_range n m h0
      have h2 := pleftL_range r (pleftN n m) h1.1
      omega
    · omega
end
theorem pleftL_len : ∀ (l : List Ps) (m : Int), 0 ≤ pleftL l m → pleftL l m + l.length ≤ m
  | [], m, _ => by unfold pleftL; simp
  | n :: r, m, h => by
    by_cases h0 : 0 ≤ m
    · rw [pleftL, if_pos h0] at h ⊢
      have h1 := pleftL_len r _ h
      have h2 := pleftN_range n m h0
      simp only [List.length_cons]
      omega
    · rw [pleftL_neg _ _ (by omega)] at h
      omega
mutual
/-- Lists of at most a million. -/
def smallP : Ps → Prop
  | .mk _ s => s.length ≤ 1000000 ∧ smallPL s
def smallPL : List Ps → Prop
  | [] => True
  | n :: r => smallP n ∧ smallPL r
end
theorem smallPL_mem : ∀ {l : List Ps}, smallPL l → ∀ n ∈ l, smallP n
  | [], _, n, hn => by cases hn
  | a :: r, h, n, hn => by
    rcases List.mem_cons.1 hn with rfl | hn
    · exact h.1
    · exact smallPL_mem h.2 n hn
mutual
theorem smallP_left : ∀ (n : Ps) (m : Int), m ≤ 1000000 → 0 ≤ pleftN n m → smallP n
  | .mk _ s, m, hm, h => by
    unfold pleftN at h
    have := pleftL_len s (m - 1) h
    exact ⟨by omega, smallPL_left s (m - 1) (by omega) h⟩
theorem smallPL_left : ∀ (l : List Ps) (m : Int), m ≤ 1000000 → 0 ≤ pleftL l m → smallPL l
  | [], _, _, _ => trivial
  | n :: r, m, hm, h => by
    by_cases h0 : 0 ≤ m
    · rw [pleftL, if_pos h0] at h
      have h2 : 0 ≤ pleftN n m := by
        rcases Int.lt_or_le (pleftN n m) 0 with h3 | h3
        · rw [pleftL_neg _ _ h3] at h; omega
        · exact h3
      have := pleftN_range n m h0
      exact ⟨smallP_left n m hm h2, smallPL_left r _ (by omega) h⟩
    · rw [pleftL_neg _ _ (by omega)] at h; omega
end

end Go.Proofs.YthddlhpndaffjaaDoor
