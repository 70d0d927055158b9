/- The rows of a set of bytes, in plain words; a row of rows in memory. No condition. -/
import Derived.Test.YtfgocamajfipmaaRefB
import Derived.Test.YtfgocamajfipmaaOSets
namespace Go.Proofs.Ytfgocamajfipmaa
open Go.RowKit

/-- The rows of the bytes below k. -/
def rowsTo (p : Nat → Bool) : Nat → List (Nat × Nat)
  | 0 => []
  | k + 1 => if p k = true then (if k ≠ 0 ∧ p (k - 1) = true then (rowsTo p k).dropLast ++ [(((rowsTo p k).getLast?.getD (0, 0)).1, k)] else rowsTo p k ++ [(k, k)]) else rowsTo p k
theorem rowsTo_no (p : Nat → Bool) (k : Nat) (h : p k = false) : rowsTo p (k + 1) = rowsTo p k := by simp [rowsTo, h]
theorem rowsTo_new (p : Nat → Bool) (k : Nat) (h : p k = true) (h2 : k = 0 ∨ p (k - 1) = false) : rowsTo p (k + 1) = rowsTo p k ++ [(k, k)] := by
  have : ¬ (k ≠ 0 ∧ p (k - 1) = true) := by
    rintro ⟨h3, h4⟩
    rcases h2 with h2 | h2
    · exact h3 h2
    · rw [h2] at h4; cases h4
  simp [rowsTo, h, this]
theorem rowsTo_on (p : Nat → Bool) (k : Nat) (l : List (Nat × Nat)) (a c : Nat) (h : p k = true) (hk : k ≠ 0) (h2 : p (k - 1) = true) (hl : rowsTo p k = l ++ [(a, c)]) : rowsTo p (k + 1) = l ++ [(a, k)] := by
  simp [rowsTo, h, hk, h2, hl]
theorem rowsTo_ends (p : Nat → Bool) : ∀ k, p k = true → ∃ l a, rowsTo p (k + 1) = l ++ [(a, k)]
  | 0, h => ⟨[], 0, by rw [rowsTo_new p 0 h (.inl rfl)]; rfl⟩
  | k + 1, h => by
    cases h2 : p k with
    | true =>
      obtain ⟨l, a, hl⟩ := rowsTo_ends p k h2
      exact ⟨l, a, rowsTo_on p (k + 1) l a k h (Nat.succ_ne_zero k) (by simpa using h2) hl⟩
    | false => exact ⟨_, _, rowsTo_new p (k + 1) h (.inr (by simpa using h2))⟩
theorem rowsTo_len (p : Nat → Bool) : ∀ k, (rowsTo p k).length ≤ k
  | 0 => Nat.le_refl _
  | k + 1 => by
    have ih := rowsTo_len p k
    cases h : p k with
    | false => rw [rowsTo_no p k h]; omega
    | true =>
      by_cases h2 : k ≠ 0 ∧ p (k - 1) = true
      · obtain ⟨h3, h4⟩ := h2
        obtain ⟨l, a, hl⟩ := rowsTo_ends p (k - 1) h4
        have e : k - 1 + 1 = k := by omega
        rw [e] at hl
        rw [rowsTo_on p k l a _ h h3 h4 hl]
        rw [hl] at ih
        simp only [List.length_append, List.length_singleton] at ih ⊢
        omega
      · rw [rowsTo_new p k h (by
          rcases Nat.eq_zero_or_pos k with h5 | h5
          · exact .inl h5
          · right
            cases h6 : p (k - 1) with
            | false => rfl
            | true => exact absurd ⟨by omega, h6⟩ h2)]
        simp only [List.length_append, List.length_singleton]
        omega
theorem rowsTo_lt (p : Nat → Bool) : ∀ k, ∀ x ∈ rowsTo p k, x.1 ≤ x.2 ∧ x.2 < k
  | 0 => fun x hx => by cases hx
  | k + 1 => by
    have ih := rowsTo_lt p k
    cases h : p k with
    | false =>
      rw [rowsTo_no p k h]
      intro x hx
      have := ih x hx
      omega
    | true =>
      by_cases h2 : k ≠ 0 ∧ p (k - 1) = true
      · obtain ⟨h3, h4⟩ := h2
        obtain ⟨l, a, hl⟩ := rowsTo_ends p (k - 1) h4
        have e : k - 1 + 1 = k := by omega
        rw [e] at hl
        rw [rowsTo_on p k l a _ h h3 h4 hl]
        rw [hl] at ih
        intro x hx
        rcases List.mem_append.1 hx with h5 | h5
        · have := ih x (List.mem_append_left _ h5); omega
        · simp only [List.mem_singleton] at h5
          subst h5
          have := ih (a, k - 1) (List.mem_append_right _ (by simp))
          simp only at this ⊢
          omega
      · rw [rowsTo_new p k h (by
          rcases Nat.eq_zero_or_pos k with h5 | h5
          · exact .inl h5
          · right
            cases h6 : p (k - 1) with
            | false => rfl
            | true => exact absurd ⟨by omega, h6⟩ h2)]
        intro x hx
        rcases List.mem_append.1 hx with h5 | h5
        · have := ih x h5; omega
        · simp only [List.mem_singleton] at h5
          subst h5
          simp

/-- Rows as cells. -/
def cR : List (Nat × Nat) → List Value
  | [] => []
  | x :: r => [.int .u8 (x.1 : Int), .int .u8 (x.2 : Int)] ++ cR r
theorem cR_len : ∀ l, (cR l).length = l.length * 2
  | [] => rfl
  | x :: r => by
    show ([_, _] ++ cR r).length = _
    rw [List.length_append, cR_len r, List.length_cons]
    simp only [List.length_cons, List.length_nil]
    omega
theorem cR_app : ∀ a b, cR (a ++ b) = cR a ++ cR b
  | [], _ => rfl
  | x :: r, b => by
    show [_, _] ++ cR (r ++ b) = ([_, _] ++ cR r) ++ cR b
    rw [cR_app r b, List.append_assoc]
theorem cR_one (l : List (Nat × Nat)) : ∀ u ∈ cR l, u.oneCell' = true := by
  induction l with
  | nil => intro u hu; cases hu
  | cons x r ih =>
    intro u hu
    rcases List.mem_append.1 hu with h | h
    · simp only [List.mem_cons, List.not_mem_nil, or_false] at h
      rcases h with rfl | rfl <;> rfl
    · exact ih u h
theorem cR_get : ∀ (l : List (Nat × Nat)) (j : Nat), j < l.length → (cR l)[j * 2]? = some (.int .u8 ((l.getD j (0, 0)).1 : Int)) ∧ (cR l)[j * 2 + 1]? = some (.int .u8 ((l.getD j (0, 0)).2 : Int))
  | [], j, h => absurd h (Nat.not_lt_zero _)
  | x :: r, 0, _ => ⟨rfl, rfl⟩
  | x :: r, j + 1, h => by
    have ih := cR_get r j (by simpa using h)
    have e1 : (j + 1) * 2 = 2 + j * 2 := by omega
    have e2 : (j + 1) * 2 + 1 = 2 + (j * 2 + 1) := by omega
    constructor
    · show ([_, _] ++ cR r)[(j + 1) * 2]? = _
      rw [e1, List.getElem?_append_right (by simp)]
      simpa using ih.1
    · show ([_, _] ++ cR r)[(j + 1) * 2 + 1]? = _
      rw [e2, List.getElem?_append_right (by simp)]
      simpa using ih.2

/-- A row of rows that the program made. -/
def OwnR (w : World) (B : Nat) (v : Value) (l : List (Nat × Nat)) : Prop := w.ownsRow B 36 2 v l.length (cR l)
theorem OwnR.nil (w : World) (B : Nat) : OwnR w B (.slice none 0 0) [] := World.ownsRow_nil _ _ _ _
theorem OwnR.slice {w : World} {B : Nat} {v : Value} {l : List (Nat × Nat)} (h : OwnR w B v l) :
    (v = .slice none 0 0 ∧ l = []) ∨ ∃ g cap cur, v = .slice (some ⟨g, 0, none⟩) l.length cap ∧ B ≤ g ∧ Blk w g 36 cur ∧ l.length ≤ cap ∧ cur.size = cap * 2 ∧ cur.toList.take (l.length * 2) = cR l := by
  rcases h.2 with ⟨h0, h1⟩ | ⟨g, cap, cur, hv, hg, hh, hnc, hm, hs, ht⟩
  · exact .inl ⟨h0, List.eq_nil_of_length_eq_zero h1⟩
  · exact .inr ⟨g, cap, cur, hv, hg, hh, hnc, hs, ht⟩
theorem OwnR.shape {w : World} {B : Nat} {v : Value} {l : List (Nat × Nat)} (h : OwnR w B v l) : ∃ A c, v = .slice A l.length c := by
  rcases h.slice with ⟨rfl, rfl⟩ | ⟨g, cap, cur, rfl, _⟩
  · exact ⟨none, 0, rfl⟩
  · exact ⟨_, _, rfl⟩
theorem OwnR.cells {w : World} {B : Nat} {v : Value} {l : List (Nat × Nat)} (h : OwnR w B v l) (j : Nat) (hj : j < l.length) :
    ∃ g cap, v = .slice (some ⟨g, 0, none⟩) l.length cap ∧ B ≤ g ∧ w.cell? ⟨g, j * 2, none⟩ = some (.int .u8 ((l.getD j (0, 0)).1 : Int)) ∧ w.cell? ⟨g, j * 2 + 1, none⟩ = some (.int .u8 ((l.getD j (0, 0)).2 : Int)) := by
  rcases h.slice with ⟨_, h0⟩ | ⟨g, cap, cur, rfl, hg, hb, hc, hs, ht⟩
  · rw [h0] at hj; exact absurd hj (Nat.not_lt_zero _)
  · have hget : ∀ i u, (cR l)[i]? = some u → w.cell? ⟨g, i, none⟩ = some u := fun i u hu => by
      rw [hb.cell, ← Array.getElem?_toList]
      have hi : i < l.length * 2 := by
        have := (List.getElem?_eq_some_iff.1 hu).1
        rwa [cR_len] at this
      rw [← ht, List.getElem?_take, if_pos hi] at hu
      exact hu
    exact ⟨g, cap, rfl, hg, hget _ _ (cR_get l j hj).1, hget _ _ (cR_get l j hj).2⟩
theorem OwnR.blk {w : World} {B : Nat} {v : Value} {l : List (Nat × Nat)} (h : OwnR w B v l) : ∀ k, v.ownBlock = some k → B ≤ k ∧ ∃ cur, Blk w k 36 cur := fun k hk => by
  rcases h.slice with ⟨rfl, _⟩ | ⟨g, cap, cur, rfl, hg, hb, _⟩
  · cases hk
  · simp only [Value.ownBlock, Option.some.injEq] at hk
    subst hk
    exact ⟨hg, cur, hb⟩
theorem OwnR.ext {w w' : World} {B : Nat} {v : Value} {l : List (Nat × Nat)} (h : OwnR w B v l) (hx : Ext w w') : OwnR w' B v l := by
  obtain ⟨h1, h2⟩ := h
  refine ⟨h1, ?_⟩
  rcases h2 with h2 | ⟨g, cap, cur, hv, hg, hh, r⟩
  · exact .inl h2
  · exact .inr ⟨g, cap, cur, hv, hg, Blk.ext (t := 36) (cs := cur) hh hx, r⟩
/-- The last row's end is set. -/
theorem OwnR.setHi {w : World} {B g n cap : Nat} {l : List (Nat × Nat)} {a c k : Nat} (h : OwnR w B (.slice (some ⟨g, 0, none⟩) n cap) (l ++ [(a, c)])) :
    OwnR (w.setCell ⟨g, l.length * 2 + 1, none⟩ (.int .u8 (k : Int))) B (.slice (some ⟨g, 0, none⟩) n cap) (l ++ [(a, k)]) := by
  obtain ⟨h1, h2⟩ := h
  refine ⟨by rw [cR_len], ?_⟩
  rcases h2 with ⟨h0, _⟩ | ⟨g', cap', cur, hv, hg, hh, hnc, hm, hs, ht⟩
  · cases h0
  · simp only [Value.slice.injEq, Option.some.injEq, Addr.mk.injEq] at hv
    obtain ⟨⟨rfl, _, _⟩, rfl, rfl⟩ := hv
    have hbs : Blk (w.setCell ⟨g, l.length * 2 + 1, none⟩ (.int .u8 (k : Int))) g 36 (cur.setIfInBounds (l.length * 2 + 1) (.int .u8 (k : Int))) := Blk.set (t := 36) (cs := cur) hh _ _
    refine .inr ⟨g, cap, _, by simp, hg, hbs, by simpa using hnc, hm, by simpa using hs, ?_⟩
    have hl : (l ++ [(a, k)]).length = (l ++ [(a, c)]).length := by simp
    rw [hl, Array.toList_setIfInBounds, List.take_set, ht, cR_app, cR_app, List.set_append]
    rw [if_neg (by rw [cR_len]; omega), cR_len]
    simp [cR]
theorem info_row : (Try.prog.info? 36).map (fun i => (i.zero, i.size, i.bytes)) = some (some (.agg #[.int .u8 0, .int .u8 0]), 2, 2) := by kernel_rfl

/-- 'append(out, Row{a, b})' as the law of an operation. -/
theorem run_appR (w : World) (B : Nat) (ty : TypeId) (v : Value) (l : List (Nat × Nat)) (hown : OwnR w B v l) (g c a b : Nat) (h0 : w.cell? ⟨g, 0, none⟩ = some (.int .u8 (a : Int))) (h1 : w.cell? ⟨g, 1, none⟩ = some (.int .u8 (b : Int)))
    (hl : l.length ≤ 1000000) (hbase : B ≤ w.heap.size) :
    ∃ v' w', (Builtin.append_ #[31, 31] ty #[v, .slice (some ⟨g, 0, none⟩) 1 c]).run Try.prog w = .ok v' w' ∧ OwnR w' B v' (l ++ [(a, b)]) ∧ w.grownBy w' v.ownBlock ∧ (v'.ownBlock = v.ownBlock ∨ v'.ownBlock = some w.heap.size) ∧ v' ≠ .slice none 0 0 := by
  obtain ⟨i, hi0, hz0, hz1, hz2⟩ := info_parts info_row
  obtain ⟨v', w', hr, h2, h3, h4, h5⟩ := run_append_own_at (P := Try.prog) w B 31 ty 36 i _ 2 2 Try.underlying31 hi0 hz0 hz1 hz2 (by rfl) (by omega) v l.length (cR l) hown ⟨g, 0, none⟩ 1 c [.int .u8 (a : Int), .int .u8 (b : Int)] (by simp) (fun j u hj => by
      have ea : (⟨g, 0, none⟩ : Addr).add j = ⟨g, j, none⟩ := by unfold Addr.add; split <;> simp_all
      rw [ea]
      match j, hj with
      | 0, hj => simp at hj; subst hj; exact h0
      | 1, hj => simp at hj; subst hj; exact h1) (fun u hu => by
      simp only [List.mem_cons, List.not_mem_nil, or_false] at hu
      rcases hu with rfl | rfl <;> rfl) (by simp only [maxLen]; omega) (by omega) hbase
  refine ⟨v', w', hr, ?_, h3, h5, fun e => by have := (h4.1 e).2; omega⟩
  unfold OwnR
  rw [cR_app, List.length_append]
  exact h2
theorem wpList_appR {w : World} {ops : Array Oper} {rest : List Oper} {o : Oper} {a : Act} {Q : Exit → Act → World → Prop} (hgd : o.guard = none) (s x : Operand)
    (ho : o.op = .call { callee := .builtin .append, args := #[s, x], argTypes := #[31, 31] })
    (B : Nat) (v : Value) (l : List (Nat × Nat)) (hs : a.eval s = v) (hown : OwnR w B v l) (g c lo hi : Nat) (hx : a.eval x = .slice (some ⟨g, 0, none⟩) 1 c)
    (h0 : w.cell? ⟨g, 0, none⟩ = some (.int .u8 (lo : Int))) (h1 : w.cell? ⟨g, 1, none⟩ = some (.int .u8 (hi : Int))) (hl : l.length ≤ 1000000) (hbase : B ≤ w.heap.size)
    (h : ∀ v' w', OwnR w' B v' (l ++ [(lo, hi)]) → w.grownBy w' v.ownBlock → wpList Try.prog ops Q rest (a.put o.dst v') w') : wpList Try.prog ops Q (o :: rest) a w := by
  obtain ⟨v', w', hr, h2, h3, _, _⟩ := run_appR w B o.type v l hown g c lo hi h0 h1 hl hbase
  refine wpList_plain hgd fun K hK => ?_
  unfold Oper.wp execOp
  simp only [ho, resolve, invoke, builtin, Sem.run_bind, Sem.run_pure, Result.andThen_ok, List.map_toArray, List.map_cons, List.map_nil, hs, hx, hr]
  exact hK _ _ (h v' w' h2 h3)

end Go.Proofs.Ytfgocamajfipmaa
