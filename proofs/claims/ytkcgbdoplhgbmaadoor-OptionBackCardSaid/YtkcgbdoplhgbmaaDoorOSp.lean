/- strings.Split at a newline: what it makes are the pieces. Condition: the length of the text; the cell of the library's own number. -/
import Derived.Test.YtkcgbdoplhgbmaaDoorOTx
import Derived.Test.YtkcgbdoplhgbmaaDoorShS
import Derived.Lib.SplitLaws
namespace Go.Proofs.YtkcgbdoplhgbmaaDoor
open Go Go.RowKit

theorem split_cons (b : UInt8) (hb : b ≠ 10) (k : Nat) (r : List UInt8) : Lib.splitK [10] 0 k (b :: r) = glueP [b] (Lib.splitK [10] 0 k r) := by
  cases k with
  | zero => rfl
  | succ k =>
    have hp : List.isPrefixOf [10] (b :: r) = false := by simp [List.isPrefixOf]; exact fun h => hb h.symm
    have hi : Lib.index (b :: r) [10] = if Lib.index r [10] == -1 then -1 else Lib.index r [10] + 1 := by
      rw [Lib.index, hp]
      rfl
    have hge := Lib.index_ge r [10]
    rw [Lib.splitK, Lib.splitK, hi]
    by_cases h : Lib.index r [10] = -1
    · rw [h]
      rfl
    · have h1 : (Lib.index r [10] == -1) = false := by rw [beq_eq_false_iff_ne]; exact h
      have h2 : (Lib.index r [10] + 1 == -1) = false := by rw [beq_eq_false_iff_ne]; omega
      obtain ⟨i, hi'⟩ : ∃ i : Nat, Lib.index r [10] = i := ⟨(Lib.index r [10]).toNat, by omega⟩
      simp only [h1, Bool.false_eq_true, if_false, h2]
      rw [hi']
      have e : ((i : Int) + 1).toNat = i + 1 := by omega
      rw [e]
      simp [glueP]
theorem split_parts : ∀ (s : List UInt8), Lib.splitK [10] 0 (s.count 10) s = partsP s
  | [] => rfl
  | b :: r => by
    by_cases hb : b = 10
    · subst hb
      rw [List.count_cons_self, Lib.splitK, partsP_cons, if_pos rfl]
      have hi : Lib.index (10 :: r) [10] = 0 := by simp [Lib.index, List.isPrefixOf]
      rw [hi]
      show [] :: Lib.splitK [10] 0 (r.count 10) r = _
      rw [split_parts r]
    · rw [List.count_cons_of_ne hb, partsP_cons, if_neg hb, split_cons b hb, split_parts r]
theorem parts_count : ∀ (s : List UInt8), (partsP s).length = s.count 10 + 1
  | [] => rfl
  | b :: r => by
    have ih := parts_count r
    by_cases hb : b = 10
    · subst hb
      rw [List.count_cons_self, partsP_cons, if_pos rfl, List.length_cons, ih]
    · rw [List.count_cons_of_ne hb, partsP_cons, if_neg hb]
      cases h : partsP r with
      | nil => exact absurd h (partsP_ne r)
      | cons a t => rw [h] at ih; simpa [glueP] using ih

theorem split_any (s : ByteArray) (m : Int) (w : World) (hs : s.size ≤ 1000000000) (hm : w.cell? ⟨22, 0, none⟩ = some (.int .i64 m)) :
    Calls Tryd.prog 94 #[.string s, .string ⟨#[10]⟩] w fun e w' => ∃ ls : List ByteArray, ls.map byB = partsP (byB s) ∧ e = .returned (.slice (some ⟨w.heap.size, 0, none⟩) ls.length ls.length) ∧ w' = w.alloc (.cells (ls.map Value.string).toArray 9) := by
  refine (Tryd.strings_Split s ⟨#[10]⟩ m w (by omega) hm (by decide)).mono ?_
  rintro e w' ⟨rfl, rfl⟩
  have hd := Lib.splitB_data ⟨#[10]⟩ 0 (Lib.countB s ⟨#[10]⟩) s
  have hc : Lib.countB s ⟨#[10]⟩ = (byB s).count 10 := Lib.count_one 10 (byB s)
  have hp : (Lib.splitB ⟨#[10]⟩ 0 (Lib.countB s ⟨#[10]⟩) s).map byB = partsP (byB s) := by
    refine Eq.trans hd ?_
    rw [hc]
    exact split_parts (byB s)
  have hl : (Lib.splitB ⟨#[10]⟩ 0 (Lib.countB s ⟨#[10]⟩) s).length = Lib.countB s ⟨#[10]⟩ + 1 := by
    have := congrArg List.length hp
    rw [List.length_map, parts_count] at this
    rw [this, hc]
  exact ⟨_, hp, by rw [hl], rfl⟩

end Go.Proofs.YtkcgbdoplhgbmaaDoor
